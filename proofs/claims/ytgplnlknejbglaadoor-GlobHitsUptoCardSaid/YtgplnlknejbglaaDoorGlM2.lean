/- Functions of the program, each as a Lean function over the layer HL: a call answers what the Lean function answers, where it answers. -/
import Derived.Test.YtgplnlknejbglaaDoorProg
import Derived.Test.YtgplnlknejbglaaDoorGlM
namespace Go.Proofs.YtgplnlknejbglaaDoor.X
open Go.Proofs.YtgplnlknejbglaaDoor.HL
set_option linter.unusedVariables false
set_option linter.unusedSimpArgs false
set_option maxRecDepth 20000
set_option maxHeartbeats 4000000
namespace unicode_utf8_ValidRune
theorem at_ : FnAt Tryd.prog 78 Tryd.f78 := ⟨Tryd.func78, by kernel_rfl⟩
noncomputable def d0 := (Tryd.f78.body).getD .skip
noncomputable def r1 := kR (kA d0)
noncomputable def d4 := kA (kA (kB d0))
noncomputable def r5 := kR (kA d4)
noncomputable def r8 := kR (kA (kA (kB d4)))
noncomputable def r11 := kR (kA (kB (kB d4)))
noncomputable def r14 := kR (kA (kA (kB (kB (kB d4)))))
noncomputable def r18 := kR (kA (kB (kB d0)))
noncomputable def c17 : Code := .seq (.region 5 r18 false) .ret
noncomputable def c12 : Code := .cond (.tmp 10) (.seq (.region 4 r14 false) .ret) .skip
noncomputable def c6 : Code := .cond (.tmp 3) (.seq (.region 2 r8 false) .ret) (.seq (.region 3 r11 false) c12)
noncomputable def c0 : Code := .seq (.region 0 r1 false) (.seq (.block 0 (.seq (.region 1 r5 false) c6)) c17)
theorem body : Tryd.f78.body = some c0 := by kernel_rfl
section
variable {base : Nat} {W0 : World} {β0 : Bt}
def J1  (y16 : Bool) : Option (Bool) :=
  (if y16 = true then
  some true else
  some false)
theorem J1_snd   {y16 : Bool} {S : HS} {p : Bool} {g0 g1 g2 g3 g4 g5 g6 g7 g8 g9 g10 g11 g12 g13 g14 g15 : HV} (h : J1  y16 = some p) : HRun Tryd.prog base W0 β0 78 none [.inRegion r11 [6], .code c12, .inBlock 0, .code c17] ⟨[g0, g1, g2, g3, g4, g5, g6, g7, g8, g9, g10, g11, g12, g13, g14, g15, (.bool y16)], []⟩ S (fun v S1 => v = (.bool p) ∧ S1 = S) := by
  unfold J1 at h
  refine qS 10 rfl (ok_assign · (.tmp rfl)) ?_
  refine hr_region_end ?_
  try dsimp only [w0, w1, w2, w3]
  rcases ifc h with ⟨hc4, h⟩ | ⟨hc4, h⟩
  · refine q_cond_t rfl (.tmp rfl) hc4 ?_
    refine q_seq rfl ?_
    refine q_region rfl rfl ?_
    refine qS 2 rfl (ok_assign · (.bool _)) ?_
    refine hr_region_end ?_
    try dsimp only [w0, w1, w2, w3]
    cases h
    exact q_ret rfl at_.at_ rfl (res1 rfl rfl) ⟨rfl, rfl⟩
  · refine q_cond_f rfl (.tmp rfl) (bfalse hc4) ?_
    refine q_skipc rfl ?_
    refine hr_inBlock ?_
    refine q_seq rfl ?_
    refine q_region rfl rfl ?_
    refine qS 2 rfl (ok_assign · (.bool _)) ?_
    refine hr_region_end ?_
    try dsimp only [w0, w1, w2, w3]
    cases h
    exact q_ret rfl at_.at_ rfl (res1 rfl rfl) ⟨rfl, rfl⟩
def J0  (y0 : Int) (y9 : Bool) : Option (Bool) :=
  (if y9 = true then
  some true else
  (if 57343 < y0 then
  J1 (decide (y0 ≤ 1114111)) else
  J1 false))
theorem J0_snd   {y0 : Int} {y9 : Bool} {S : HS} {p : Bool} {g1 g2 g3 g4 g5 g6 g7 g8 g10 g11 g12 g13 g14 g15 g16 : HV} (h : J0  y0 y9 = some p) : HRun Tryd.prog base W0 β0 78 none [.inRegion r5 [6], .code c6, .inBlock 0, .code c17] ⟨[(.int .i32 y0), g1, g2, g3, g4, g5, g6, g7, g8, (.bool y9), g10, g11, g12, g13, g14, g15, g16], []⟩ S (fun v S1 => v = (.bool p) ∧ S1 = S) := by
  unfold J0 at h
  refine qS 3 rfl (ok_assign · (.tmp rfl)) ?_
  refine hr_region_end ?_
  try dsimp only [w0, w1, w2, w3]
  rcases ifc h with ⟨hc2, h⟩ | ⟨hc2, h⟩
  · refine q_cond_t rfl (.tmp rfl) hc2 ?_
    refine q_seq rfl ?_
    refine q_region rfl rfl ?_
    refine qS 2 rfl (ok_assign · (.bool _)) ?_
    refine hr_region_end ?_
    try dsimp only [w0, w1, w2, w3]
    cases h
    exact q_ret rfl at_.at_ rfl (res1 rfl rfl) ⟨rfl, rfl⟩
  · refine q_cond_f rfl (.tmp rfl) (bfalse hc2) ?_
    refine q_seq rfl ?_
    refine q_region rfl rfl ?_
    refine qS 11 rfl (ok_move · (.tmp rfl)) ?_
    refine qS 12 rfl (ok_ibin · (.int _ _) (.tmp rfl) rfl) ?_
    refine qS 13 rfl (ok_move · (.tmp rfl)) ?_
    rcases ifc h with ⟨hc3, h⟩ | ⟨hc3, h⟩
    · refine qG 13 14 rfl (decide_eq_true hc3) (ok_move · (.tmp rfl)) ?_
      try dsimp only [w0, w1, w2, w3]
      refine qG 13 15 rfl (decide_eq_true hc3) (ok_ibin · (.tmp rfl) (.int _ _) rfl) ?_
      refine qS 16 rfl (ok_pick_tt · (.tmp rfl) (decide_eq_true hc3) (.tmp rfl)) ?_
      try dsimp only [w0, w1, w2, w3]
      exact J1_snd  h
    · refine q_skip (dst := some 14) (t := 13) rfl rfl rfl (decide_eq_false hc3) ?_
      try dsimp only [w0, w1, w2, w3]
      refine q_skip (dst := some 15) (t := 13) rfl rfl rfl (decide_eq_false hc3) ?_
      refine qS 16 rfl (ok_pick_ff · (.tmp rfl) (decide_eq_false hc3) (.bool _)) ?_
      try dsimp only [w0, w1, w2, w3]
      exact J1_snd  h
def f (x0 : Int) : Option (Bool) :=
  (if 0 ≤ x0 then
  J0 x0 (decide (x0 < 55296)) else
  J0 x0 false)
theorem snd {x0 : Int} {S : HS}  {p : Bool} (h : f x0 = some p) : HCall Tryd.prog base W0 β0 78 [(.int .i32 x0)] S (fun v S1 => v = (.bool p) ∧ S1 = S) := by
  unfold f at h
  refine HCall.of_run at_.at_ body ?_
  show HRun Tryd.prog base W0 β0 78 none [.code c0] ⟨[(.int .i32 x0), τ, τ, τ, τ, τ, τ, τ, τ, τ, τ, τ, τ, τ, τ, τ, τ], []⟩ S _
  refine q_seq rfl ?_
  refine q_region rfl rfl ?_
  refine qS 2 rfl (ok_assign · (.bool _)) ?_
  refine hr_region_end ?_
  try dsimp only [w0, w1, w2, w3]
  refine q_seq rfl ?_
  refine q_block rfl ?_
  refine q_seq rfl ?_
  refine q_region rfl rfl ?_
  refine qS 4 rfl (ok_move · (.tmp rfl)) ?_
  refine qS 5 rfl (ok_ibin · (.int _ _) (.tmp rfl) rfl) ?_
  refine qS 6 rfl (ok_move · (.tmp rfl)) ?_
  rcases ifc h with ⟨hc1, h⟩ | ⟨hc1, h⟩
  · refine qG 6 7 rfl (decide_eq_true hc1) (ok_move · (.tmp rfl)) ?_
    try dsimp only [w0, w1, w2, w3]
    refine qG 6 8 rfl (decide_eq_true hc1) (ok_ibin · (.tmp rfl) (.int _ _) rfl) ?_
    refine qS 9 rfl (ok_pick_tt · (.tmp rfl) (decide_eq_true hc1) (.tmp rfl)) ?_
    try dsimp only [w0, w1, w2, w3]
    exact J0_snd  h
  · refine q_skip (dst := some 7) (t := 6) rfl rfl rfl (decide_eq_false hc1) ?_
    try dsimp only [w0, w1, w2, w3]
    refine q_skip (dst := some 8) (t := 6) rfl rfl rfl (decide_eq_false hc1) ?_
    refine qS 9 rfl (ok_pick_ff · (.tmp rfl) (decide_eq_false hc1) (.bool _)) ?_
    try dsimp only [w0, w1, w2, w3]
    exact J0_snd  h
end
end unicode_utf8_ValidRune
namespace strings_IndexRune
theorem at_ : FnAt Tryd.prog 70 Tryd.f70 := ⟨Tryd.func70, by kernel_rfl⟩
noncomputable def c0 : Code := (Tryd.f70.body).getD .skip
theorem body : Tryd.f70.body = some c0 := by kernel_rfl
def f (x0 : (List UInt8)) (x1 : Int) (S : HS) : Option (((Int)) × HS) := none
theorem snd {base : Nat} {W0 : World} {β0 : Bt} {x0 : (List UInt8)} {x1 : Int} {S : HS} {p : ((Int)) × HS} (h : f x0 x1 S = some p) : HCall Tryd.prog base W0 β0 70 [(.str x0), (.int .i32 x1)] S (fun v S1 => v = (.int .i64 p.1) ∧ S1 = p.2) := by cases h
end strings_IndexRune
namespace strings_ContainsRune
theorem at_ : FnAt Tryd.prog 61 Tryd.f61 := ⟨Tryd.func61, by kernel_rfl⟩
noncomputable def d0 := (Tryd.f61.body).getD .skip
noncomputable def r1 := kR (kA d0)
noncomputable def r3 := kR (kA (kB d0))
noncomputable def c0 : Code := .seq (.region 0 r1 false) (.seq (.region 1 r3 false) .ret)
theorem body : Tryd.f61.body = some c0 := by kernel_rfl
section
variable {base : Nat} {W0 : World} {β0 : Bt}
def f (x0 : (List UInt8)) (x1 : Int) (S : HS) : Option ((Bool) × HS) :=
  (Option.bind (strings_IndexRune.f x0 x1 S) fun p1 =>
  some ((decide (p1.1 ≥ 0)), p1.2))
theorem snd {x0 : (List UInt8)} {x1 : Int} {S : HS}  {p : (Bool) × HS} (h : f x0 x1 S = some p) : HCall Tryd.prog base W0 β0 61 [(.str x0), (.int .i32 x1)] S (fun v S1 => v = (.bool p.1) ∧ S1 = p.2) := by
  unfold f at h
  refine HCall.of_run at_.at_ body ?_
  show HRun Tryd.prog base W0 β0 61 none [.code c0] ⟨[(.str x0), (.int .i32 x1), τ, τ, τ, τ, τ, τ, τ], []⟩ S _
  refine q_seq rfl ?_
  refine q_region rfl rfl ?_
  refine qS 4 rfl (ok_assign · (.bool _)) ?_
  refine hr_region_end ?_
  try dsimp only [w0, w1, w2, w3]
  refine q_seq rfl ?_
  refine q_region rfl rfl ?_
  refine qS 5 rfl (ok_move · (.tmp rfl)) ?_
  refine qS 6 rfl (ok_move · (.tmp rfl)) ?_
  obtain ⟨p1, hp1, h⟩ := bindo h
  refine q_call (dst := some 7) rfl (.func _) (.cons (.tmp rfl) (.cons (.tmp rfl) Evs.nil)) (HInv.static strings_IndexRune.at_ strings_IndexRune.body (strings_IndexRune.snd  hp1)) ?_
  rintro _ _ ⟨rfl, rfl⟩
  refine qS 8 rfl (ok_ibin · (.tmp rfl) (.int _ _) rfl) ?_
  try dsimp only [w0, w1, w2, w3]
  refine qS 4 rfl (ok_assign · (.tmp rfl)) ?_
  refine hr_region_end ?_
  try dsimp only [w0, w1, w2, w3]
  cases h
  exact q_ret rfl at_.at_ rfl (res1 rfl rfl) ⟨rfl, rfl⟩
end
end strings_ContainsRune
namespace strings_trimRightUnicode
theorem at_ : FnAt Tryd.prog 47 Tryd.f47 := ⟨Tryd.func47, by kernel_rfl⟩
noncomputable def d0 := (Tryd.f47.body).getD .skip
noncomputable def r1 := kR (kA d0)
noncomputable def d4 := kA (kA (kB d0))
noncomputable def r7 := kR (kA (kA (kA d4)))
noncomputable def d12 := kA (kB (kA d4))
noncomputable def r13 := kR (kA d12)
noncomputable def r16 := kR (kA (kA (kB d12)))
noncomputable def r18 := kR (kA (kB (kA (kB d12))))
noncomputable def r22 := kR (kA (kA (kB (kB d12))))
noncomputable def r26 := kR (kB (kB (kB d12)))
noncomputable def r28 := kR (kA (kB (kB d0)))
noncomputable def c27 : Code := .seq (.region 7 r28 false) .ret
noncomputable def c20 : Code := .seq (.seq (.region 5 r22 false) (.cond (.tmp 26) (.exit 0) .skip)) (.region 6 r26 false)
noncomputable def c5 : Code := .seq (.seq (.region 1 r7 false) (.cond (.tmp 9) .skip (.exit 0))) (.block 1 (.seq (.region 2 r13 false) (.seq (.seq (.region 3 r16 false) (.cond (.tmp 17) (.region 4 r18 false) .skip)) c20)))
noncomputable def c0 : Code := .seq (.region 0 r1 false) (.seq (.block 0 (.loop c5)) c27)
theorem body : Tryd.f47.body = some c0 := by kernel_rfl
section
variable {base : Nat} {W0 : World} {β0 : Bt}
def J2 (k : Nat) (y0 : (List UInt8)) (S : HS) : Option (((List UInt8)) × HS) :=
  some (y0, S)
theorem J2_snd {k : Nat}  {y0 : (List UInt8)} {S : HS} {p : ((List UInt8)) × HS} {g1 g2 g3 g4 g5 g6 g7 g8 g9 g10 g11 g12 g13 g14 g15 g16 g17 g18 g19 g20 g21 g22 g23 g24 g25 g26 g27 g28 g29 g30 g31 g32 g33 : HV} (h : J2 k y0 S = some p) : HRun Tryd.prog base W0 β0 47 none [.code c27] ⟨[(.str y0), g1, g2, g3, g4, g5, g6, g7, g8, g9, g10, g11, g12, g13, g14, g15, g16, g17, g18, g19, g20, g21, g22, g23, g24, g25, g26, g27, g28, g29, g30, g31, g32, g33], []⟩ S (fun v S1 => v = (.str p.1) ∧ S1 = p.2) := by
  unfold J2 at h
  refine q_seq rfl ?_
  refine q_region rfl rfl ?_
  refine qS 33 rfl (ok_move · (.tmp rfl)) ?_
  refine qS 4 rfl (ok_assign · (.tmp rfl)) ?_
  refine hr_region_end ?_
  try dsimp only [w0, w1, w2, w3]
  cases h
  exact q_ret rfl at_.at_ rfl (res1 rfl rfl) ⟨rfl, rfl⟩
def J1 (k : Nat) (rec0 : (List UInt8) → (List UInt8) → HS → Option (((List UInt8)) × HS)) (y0 : (List UInt8)) (y1 : (List UInt8)) (y5 : Int) (y6 : Int) (S : HS) : Option (((List UInt8)) × HS) :=
  (Option.bind (strings_ContainsRune.f y1 y5 S) fun p5 =>
  (if (!p5.1) = true then
  J2 k y0 p5.2 else
  (if 0 ≤ (0 : Int) ∧ (0 : Int) ≤ (w64 ((List.length y0 : Int) - y6)) ∧ ((w64 ((List.length y0 : Int) - y6)) : Int) ≤ (List.length y0 : Int) then
  rec0 (ssub y0 0 (w64 ((List.length y0 : Int) - y6))) y1 p5.2 else none)))
theorem J1_snd {k : Nat} {rec0 : (List UInt8) → (List UInt8) → HS → Option (((List UInt8)) × HS)} (hrec0 : ∀ ⦃y0 : (List UInt8)⦄ ⦃y1 : (List UInt8)⦄ ⦃S : HS⦄ ⦃p : ((List UInt8)) × HS⦄ ⦃g2 g3 g4 g5 g6 g7 g8 g9 g10 g11 g12 g13 g14 g15 g16 g17 g18 g19 g20 g21 g22 g23 g24 g25 g26 g27 g28 g29 g30 g31 g32 g33 : HV⦄, rec0 y0 y1 S = some p → HRun Tryd.prog base W0 β0 47 none [.inLoop c5, .inBlock 0, .code c27] ⟨[(.str y0), (.str y1), g2, g3, g4, g5, g6, g7, g8, g9, g10, g11, g12, g13, g14, g15, g16, g17, g18, g19, g20, g21, g22, g23, g24, g25, g26, g27, g28, g29, g30, g31, g32, g33], []⟩ S (fun v S1 => v = (.str p.1) ∧ S1 = p.2)) {y0 : (List UInt8)} {y1 : (List UInt8)} {y5 : Int} {y6 : Int} {S : HS} {p : ((List UInt8)) × HS} {g2 g3 g4 g7 g8 g9 g10 g11 g12 g13 g14 g15 g16 g17 g18 g19 g20 g21 g22 g23 g24 g25 g26 g27 g28 g29 g30 g31 g32 g33 : HV} (h : J1 k rec0 y0 y1 y5 y6 S = some p) : HRun Tryd.prog base W0 β0 47 none [.code c20, .inBlock 1, .inLoop c5, .inBlock 0, .code c27] ⟨[(.str y0), (.str y1), g2, g3, g4, (.int .i32 y5), (.int .i64 y6), g7, g8, g9, g10, g11, g12, g13, g14, g15, g16, g17, g18, g19, g20, g21, g22, g23, g24, g25, g26, g27, g28, g29, g30, g31, g32, g33], []⟩ S (fun v S1 => v = (.str p.1) ∧ S1 = p.2) := by
  unfold J1 at h
  refine q_seq rfl ?_
  refine q_seq rfl ?_
  refine q_region rfl rfl ?_
  refine qS 23 rfl (ok_move · (.tmp rfl)) ?_
  refine qS 24 rfl (ok_move · (.tmp rfl)) ?_
  obtain ⟨p5, hp5, h⟩ := bindo h
  refine q_call (dst := some 25) rfl (.func _) (.cons (.tmp rfl) (.cons (.tmp rfl) Evs.nil)) (HInv.static strings_ContainsRune.at_ strings_ContainsRune.body (strings_ContainsRune.snd  hp5)) ?_
  rintro _ _ ⟨rfl, rfl⟩
  refine qS 26 rfl (ok_not · (.tmp rfl)) ?_
  refine hr_region_end ?_
  try dsimp only [w0, w1, w2, w3]
  rcases ifc h with ⟨hc6, h⟩ | ⟨hc6, h⟩
  · refine q_cond_t rfl (.tmp rfl) hc6 ?_
    refine q_exit rfl rfl ?_
    try dsimp only [w0, w1, w2, w3]
    exact J2_snd  h
  · refine q_cond_f rfl (.tmp rfl) (bfalse hc6) ?_
    refine q_skipc rfl ?_
    refine q_region rfl rfl ?_
    refine qS 27 rfl (ok_move · (.tmp rfl)) ?_
    refine qS 28 rfl (ok_move · (.tmp rfl)) ?_
    refine qS 29 rfl (ok_len_str · rfl tu9 (.tmp rfl)) ?_
    refine qS 30 rfl (ok_move · (.tmp rfl)) ?_
    try dsimp only [w0, w1, w2, w3]
    refine qS 31 rfl (ok_ibin · (.tmp rfl) (.tmp rfl) rfl) ?_
    obtain ⟨hg7, h⟩ := gd h
    refine qS 32 rfl (ok_slice_str (kl := .i64) (kh := .i64) (l := 0) (h := (w64 ((List.length y0 : Int) - y6))) · tu9 (.tmp rfl) (.inl ⟨rfl, rfl⟩) (.inr ⟨_, rfl, (.tmp rfl)⟩) hg7.1 hg7.2.1 hg7.2.2) ?_
    refine qS 0 rfl (ok_assign · (.tmp rfl)) ?_
    refine hr_region_end ?_
    try dsimp only [w0, w1, w2, w3]
    refine hr_inBlock ?_
    try dsimp only [w0, w1, w2, w3]
    exact hrec0 h
def L0 (k : Nat) : Nat → (List UInt8) → (List UInt8) → HS → Option (((List UInt8)) × HS)
  | 0, _, _, _ => none
  | n + 1, y0, y1, S =>
    (if (List.length y0 : Int) > 0 then
    (Option.bind (sat y0 (w64 ((List.length y0 : Int) - 1))) fun p2 =>
    (if (IntKind.wrap .i32 (UInt8.toNat p2 : Int)) ≥ 128 then
    (Option.bind (unicode_utf8_DecodeLastRuneInString.f k y0 S) fun p4 =>
    J1 k (L0 k n) y0 y1 p4.1.1 p4.1.2 p4.2) else
    J1 k (L0 k n) y0 y1 (IntKind.wrap .i32 (UInt8.toNat p2 : Int)) 1 S)) else
    J2 k y0 S)
theorem L0_snd {k : Nat}  : ∀ {n : Nat} ⦃y0 : (List UInt8)⦄ ⦃y1 : (List UInt8)⦄ ⦃S : HS⦄ ⦃p : ((List UInt8)) × HS⦄ ⦃g2 g3 g4 g5 g6 g7 g8 g9 g10 g11 g12 g13 g14 g15 g16 g17 g18 g19 g20 g21 g22 g23 g24 g25 g26 g27 g28 g29 g30 g31 g32 g33 : HV⦄, L0 k n y0 y1 S = some p → HRun Tryd.prog base W0 β0 47 none [.inLoop c5, .inBlock 0, .code c27] ⟨[(.str y0), (.str y1), g2, g3, g4, g5, g6, g7, g8, g9, g10, g11, g12, g13, g14, g15, g16, g17, g18, g19, g20, g21, g22, g23, g24, g25, g26, g27, g28, g29, g30, g31, g32, g33], []⟩ S (fun v S1 => v = (.str p.1) ∧ S1 = p.2) := by
  intro n
  induction n with
  | zero => intro _ _ _ _ _ _ _ _ _ _ _ _ _ _ _ _ _ _ _ _ _ _ _ _ _ _ _ _ _ _ _ _ _ _ _ _ h; cases h
  | succ n ih =>
    intro y0 y1 S p g2 g3 g4 g5 g6 g7 g8 g9 g10 g11 g12 g13 g14 g15 g16 g17 g18 g19 g20 g21 g22 g23 g24 g25 g26 g27 g28 g29 g30 g31 g32 g33 h
    simp only [L0] at h
    refine hr_inLoop ?_
    refine q_seq rfl ?_
    refine q_seq rfl ?_
    refine q_region rfl rfl ?_
    refine qS 7 rfl (ok_move · (.tmp rfl)) ?_
    refine qS 8 rfl (ok_len_str · rfl tu9 (.tmp rfl)) ?_
    refine qS 9 rfl (ok_ibin · (.tmp rfl) (.int _ _) rfl) ?_
    refine hr_region_end ?_
    try dsimp only [w0, w1, w2, w3]
    rcases ifc h with ⟨hc1, h⟩ | ⟨hc1, h⟩
    · refine q_cond_t rfl (.tmp rfl) (decide_eq_true hc1) ?_
      refine q_skipc rfl ?_
      refine q_block rfl ?_
      refine q_seq rfl ?_
      refine q_region rfl rfl ?_
      refine qS 10 rfl (ok_move · (.tmp rfl)) ?_
      refine qS 11 rfl (ok_move · (.tmp rfl)) ?_
      refine qS 12 rfl (ok_len_str · rfl tu9 (.tmp rfl)) ?_
      refine qS 13 rfl (ok_ibin · (.tmp rfl) (.int _ _) rfl) ?_
      try dsimp only [w0, w1, w2, w3]
      obtain ⟨p2, hp2, h⟩ := bindo h
      refine qS 14 rfl (ok_index_s · tu9 (.tmp rfl) (.tmp rfl) hp2) ?_
      refine qS 15 rfl (ok_conv_int · tu5 tu21 (.tmp rfl)) ?_
      refine qS 5 rfl (ok_assign · (.tmp rfl)) ?_
      refine qS 6 rfl (ok_assign · (.int _ _)) ?_
      refine hr_region_end ?_
      try dsimp only [w0, w1, w2, w3]
      refine q_seq rfl ?_
      refine q_seq rfl ?_
      refine q_region rfl rfl ?_
      refine qS 16 rfl (ok_move · (.tmp rfl)) ?_
      refine qS 17 rfl (ok_ibin · (.tmp rfl) (.int _ _) rfl) ?_
      refine hr_region_end ?_
      try dsimp only [w0, w1, w2, w3]
      rcases ifc h with ⟨hc3, h⟩ | ⟨hc3, h⟩
      · refine q_cond_t rfl (.tmp rfl) (decide_eq_true hc3) ?_
        refine q_region rfl rfl ?_
        refine qS 19 rfl (ok_move · (.tmp rfl)) ?_
        obtain ⟨p4, hp4, h⟩ := bindo h
        refine q_call (dst := some 20) rfl (.func _) (.cons (.tmp rfl) Evs.nil) (HInv.static unicode_utf8_DecodeLastRuneInString.at_ unicode_utf8_DecodeLastRuneInString.body (unicode_utf8_DecodeLastRuneInString.snd  hp4)) ?_
        rintro _ _ ⟨rfl, rfl⟩
        refine qS 18 rfl (ok_move · (.tmp rfl)) ?_
        refine qS 21 rfl (ok_extract · (.tmp rfl) rfl) ?_
        try dsimp only [w0, w1, w2, w3]
        refine qS 22 rfl (ok_extract · (.tmp rfl) rfl) ?_
        refine qS 5 rfl (ok_assign · (.tmp rfl)) ?_
        refine qS 6 rfl (ok_assign · (.tmp rfl)) ?_
        refine hr_region_end ?_
        try dsimp only [w0, w1, w2, w3]
        try dsimp only [w0, w1, w2, w3]
        exact J1_snd ih h
      · refine q_cond_f rfl (.tmp rfl) (decide_eq_false hc3) ?_
        refine q_skipc rfl ?_
        try dsimp only [w0, w1, w2, w3]
        exact J1_snd ih h
    · refine q_cond_f rfl (.tmp rfl) (decide_eq_false hc1) ?_
      refine q_exit rfl rfl ?_
      try dsimp only [w0, w1, w2, w3]
      exact J2_snd  h
def f (k : Nat) (x0 : (List UInt8)) (x1 : (List UInt8)) (S : HS) : Option (((List UInt8)) × HS) :=
  L0 k k x0 x1 S
theorem snd {k : Nat} {x0 : (List UInt8)} {x1 : (List UInt8)} {S : HS}  {p : ((List UInt8)) × HS} (h : f k x0 x1 S = some p) : HCall Tryd.prog base W0 β0 47 [(.str x0), (.str x1)] S (fun v S1 => v = (.str p.1) ∧ S1 = p.2) := by
  unfold f at h
  refine HCall.of_run at_.at_ body ?_
  show HRun Tryd.prog base W0 β0 47 none [.code c0] ⟨[(.str x0), (.str x1), τ, τ, τ, τ, τ, τ, τ, τ, τ, τ, τ, τ, τ, τ, τ, τ, τ, τ, τ, τ, τ, τ, τ, τ, τ, τ, τ, τ, τ, τ, τ, τ], []⟩ S _
  refine q_seq rfl ?_
  refine q_region rfl rfl ?_
  refine qS 4 rfl (ok_assign · (.str _)) ?_
  refine hr_region_end ?_
  try dsimp only [w0, w1, w2, w3]
  refine q_seq rfl ?_
  refine q_block rfl ?_
  refine q_loop rfl ?_
  try dsimp only [w0, w1, w2, w3]
  exact L0_snd  h
end
end strings_trimRightUnicode
namespace strings_trimLeftUnicode
theorem at_ : FnAt Tryd.prog 46 Tryd.f46 := ⟨Tryd.func46, by kernel_rfl⟩
noncomputable def d0 := (Tryd.f46.body).getD .skip
noncomputable def r1 := kR (kA d0)
noncomputable def d4 := kA (kA (kB d0))
noncomputable def r7 := kR (kA (kA (kA d4)))
noncomputable def r13 := kR (kA (kA (kB (kA d4))))
noncomputable def r16 := kR (kA (kA (kB (kA (kB (kA d4))))))
noncomputable def r20 := kR (kB (kB (kA (kB (kA d4)))))
noncomputable def r22 := kR (kA (kB (kB d0)))
noncomputable def c21 : Code := .seq (.region 5 r22 false) .ret
noncomputable def c5 : Code := .seq (.seq (.region 1 r7 false) (.cond (.tmp 9) .skip (.exit 0))) (.block 1 (.seq (.region 2 r13 false) (.seq (.seq (.region 3 r16 false) (.cond (.tmp 18) (.exit 0) .skip)) (.region 4 r20 false))))
noncomputable def c0 : Code := .seq (.region 0 r1 false) (.seq (.block 0 (.loop c5)) c21)
theorem body : Tryd.f46.body = some c0 := by kernel_rfl
section
variable {base : Nat} {W0 : World} {β0 : Bt}
def J1 (k : Nat) (y0 : (List UInt8)) (S : HS) : Option (((List UInt8)) × HS) :=
  some (y0, S)
theorem J1_snd {k : Nat}  {y0 : (List UInt8)} {S : HS} {p : ((List UInt8)) × HS} {g1 g2 g3 g4 g5 g6 g7 g8 g9 g10 g11 g12 g13 g14 g15 g16 g17 g18 g19 g20 g21 g22 : HV} (h : J1 k y0 S = some p) : HRun Tryd.prog base W0 β0 46 none [.code c21] ⟨[(.str y0), g1, g2, g3, g4, g5, g6, g7, g8, g9, g10, g11, g12, g13, g14, g15, g16, g17, g18, g19, g20, g21, g22], []⟩ S (fun v S1 => v = (.str p.1) ∧ S1 = p.2) := by
  unfold J1 at h
  refine q_seq rfl ?_
  refine q_region rfl rfl ?_
  refine qS 22 rfl (ok_move · (.tmp rfl)) ?_
  refine qS 4 rfl (ok_assign · (.tmp rfl)) ?_
  refine hr_region_end ?_
  try dsimp only [w0, w1, w2, w3]
  cases h
  exact q_ret rfl at_.at_ rfl (res1 rfl rfl) ⟨rfl, rfl⟩
def L0 (k : Nat) : Nat → (List UInt8) → (List UInt8) → HS → Option (((List UInt8)) × HS)
  | 0, _, _, _ => none
  | n + 1, y0, y1, S =>
    (if (List.length y0 : Int) > 0 then
    (Option.bind (unicode_utf8_DecodeRuneInString.f y0 S) fun p2 =>
    (Option.bind (strings_ContainsRune.f y1 p2.1.1 p2.2) fun p3 =>
    (if (!p3.1) = true then
    J1 k y0 p3.2 else
    (if 0 ≤ (p2.1.2 : Int) ∧ (p2.1.2 : Int) ≤ (List.length y0 : Int) ∧ ((List.length y0 : Int) : Int) ≤ (List.length y0 : Int) then
    (L0 k n) (ssub y0 p2.1.2 (List.length y0 : Int)) y1 p3.2 else none)))) else
    J1 k y0 S)
theorem L0_snd {k : Nat}  : ∀ {n : Nat} ⦃y0 : (List UInt8)⦄ ⦃y1 : (List UInt8)⦄ ⦃S : HS⦄ ⦃p : ((List UInt8)) × HS⦄ ⦃g2 g3 g4 g5 g6 g7 g8 g9 g10 g11 g12 g13 g14 g15 g16 g17 g18 g19 g20 g21 g22 : HV⦄, L0 k n y0 y1 S = some p → HRun Tryd.prog base W0 β0 46 none [.inLoop c5, .inBlock 0, .code c21] ⟨[(.str y0), (.str y1), g2, g3, g4, g5, g6, g7, g8, g9, g10, g11, g12, g13, g14, g15, g16, g17, g18, g19, g20, g21, g22], []⟩ S (fun v S1 => v = (.str p.1) ∧ S1 = p.2) := by
  intro n
  induction n with
  | zero => intro _ _ _ _ _ _ _ _ _ _ _ _ _ _ _ _ _ _ _ _ _ _ _ _ _ h; cases h
  | succ n ih =>
    intro y0 y1 S p g2 g3 g4 g5 g6 g7 g8 g9 g10 g11 g12 g13 g14 g15 g16 g17 g18 g19 g20 g21 g22 h
    simp only [L0] at h
    refine hr_inLoop ?_
    refine q_seq rfl ?_
    refine q_seq rfl ?_
    refine q_region rfl rfl ?_
    refine qS 7 rfl (ok_move · (.tmp rfl)) ?_
    refine qS 8 rfl (ok_len_str · rfl tu9 (.tmp rfl)) ?_
    refine qS 9 rfl (ok_ibin · (.tmp rfl) (.int _ _) rfl) ?_
    refine hr_region_end ?_
    try dsimp only [w0, w1, w2, w3]
    rcases ifc h with ⟨hc1, h⟩ | ⟨hc1, h⟩
    · refine q_cond_t rfl (.tmp rfl) (decide_eq_true hc1) ?_
      refine q_skipc rfl ?_
      refine q_block rfl ?_
      refine q_seq rfl ?_
      refine q_region rfl rfl ?_
      refine qS 11 rfl (ok_move · (.tmp rfl)) ?_
      obtain ⟨p2, hp2, h⟩ := bindo h
      refine q_call (dst := some 12) rfl (.func _) (.cons (.tmp rfl) Evs.nil) (HInv.static unicode_utf8_DecodeRuneInString.at_ unicode_utf8_DecodeRuneInString.body (unicode_utf8_DecodeRuneInString.snd  hp2)) ?_
      rintro _ _ ⟨rfl, rfl⟩
      refine qS 10 rfl (ok_move · (.tmp rfl)) ?_
      refine qS 13 rfl (ok_extract · (.tmp rfl) rfl) ?_
      try dsimp only [w0, w1, w2, w3]
      refine qS 14 rfl (ok_extract · (.tmp rfl) rfl) ?_
      refine qS 5 rfl (ok_assign · (.tmp rfl)) ?_
      refine qS 6 rfl (ok_assign · (.tmp rfl)) ?_
      refine hr_region_end ?_
      try dsimp only [w0, w1, w2, w3]
      refine q_seq rfl ?_
      refine q_seq rfl ?_
      refine q_region rfl rfl ?_
      refine qS 15 rfl (ok_move · (.tmp rfl)) ?_
      refine qS 16 rfl (ok_move · (.tmp rfl)) ?_
      obtain ⟨p3, hp3, h⟩ := bindo h
      refine q_call (dst := some 17) rfl (.func _) (.cons (.tmp rfl) (.cons (.tmp rfl) Evs.nil)) (HInv.static strings_ContainsRune.at_ strings_ContainsRune.body (strings_ContainsRune.snd  hp3)) ?_
      rintro _ _ ⟨rfl, rfl⟩
      refine qS 18 rfl (ok_not · (.tmp rfl)) ?_
      refine hr_region_end ?_
      try dsimp only [w0, w1, w2, w3]
      rcases ifc h with ⟨hc4, h⟩ | ⟨hc4, h⟩
      · refine q_cond_t rfl (.tmp rfl) hc4 ?_
        refine q_exit rfl rfl ?_
        try dsimp only [w0, w1, w2, w3]
        exact J1_snd  h
      · refine q_cond_f rfl (.tmp rfl) (bfalse hc4) ?_
        refine q_skipc rfl ?_
        refine q_region rfl rfl ?_
        refine qS 19 rfl (ok_move · (.tmp rfl)) ?_
        refine qS 20 rfl (ok_move · (.tmp rfl)) ?_
        obtain ⟨hg5, h⟩ := gd h
        refine qS 21 rfl (ok_slice_str (kl := .i64) (kh := .i64) (l := p2.1.2) (h := (List.length y0 : Int)) · tu9 (.tmp rfl) (.inr ⟨_, rfl, (.tmp rfl)⟩) (.inl ⟨rfl, rfl⟩) hg5.1 hg5.2.1 hg5.2.2) ?_
        refine qS 0 rfl (ok_assign · (.tmp rfl)) ?_
        refine hr_region_end ?_
        try dsimp only [w0, w1, w2, w3]
        refine hr_inBlock ?_
        try dsimp only [w0, w1, w2, w3]
        exact ih h
    · refine q_cond_f rfl (.tmp rfl) (decide_eq_false hc1) ?_
      refine q_exit rfl rfl ?_
      try dsimp only [w0, w1, w2, w3]
      exact J1_snd  h
def f (k : Nat) (x0 : (List UInt8)) (x1 : (List UInt8)) (S : HS) : Option (((List UInt8)) × HS) :=
  L0 k k x0 x1 S
theorem snd {k : Nat} {x0 : (List UInt8)} {x1 : (List UInt8)} {S : HS}  {p : ((List UInt8)) × HS} (h : f k x0 x1 S = some p) : HCall Tryd.prog base W0 β0 46 [(.str x0), (.str x1)] S (fun v S1 => v = (.str p.1) ∧ S1 = p.2) := by
  unfold f at h
  refine HCall.of_run at_.at_ body ?_
  show HRun Tryd.prog base W0 β0 46 none [.code c0] ⟨[(.str x0), (.str x1), τ, τ, τ, τ, τ, τ, τ, τ, τ, τ, τ, τ, τ, τ, τ, τ, τ, τ, τ, τ, τ], []⟩ S _
  refine q_seq rfl ?_
  refine q_region rfl rfl ?_
  refine qS 4 rfl (ok_assign · (.str _)) ?_
  refine hr_region_end ?_
  try dsimp only [w0, w1, w2, w3]
  refine q_seq rfl ?_
  refine q_block rfl ?_
  refine q_loop rfl ?_
  try dsimp only [w0, w1, w2, w3]
  exact L0_snd  h
end
end strings_trimLeftUnicode
namespace strings_Trim
theorem at_ : FnAt Tryd.prog 29 Tryd.f29 := ⟨Tryd.func29, by kernel_rfl⟩
noncomputable def d0 := (Tryd.f29.body).getD .skip
noncomputable def r1 := kR (kA d0)
noncomputable def r4 := kR (kA (kA (kB d0)))
noncomputable def r7 := kR (kA (kA (kB (kA (kB d0)))))
noncomputable def r12 := kR (kA (kA (kB (kB d0))))
noncomputable def r15 := kR (kA (kA (kB (kA (kB (kB d0))))))
noncomputable def d18 := kB (kB (kB d0))
noncomputable def r20 := kR (kA (kA d18))
noncomputable def r22 := kR (kA (kB (kA d18)))
noncomputable def r25 := kR (kA (kA (kB (kB (kA d18)))))
noncomputable def r29 := kR (kA (kB d18))
noncomputable def c18 : Code := .seq (.seq (.region 5 r20 false) (.seq (.region 6 r22 false) (.cond (.tmp 34) (.seq (.region 7 r25 false) .ret) .skip))) (.seq (.region 8 r29 false) .ret)
noncomputable def c13 : Code := .cond (.tmp 21) (.seq (.region 4 r15 true) .ret) .skip
noncomputable def c10 : Code := .seq (.seq (.region 3 r12 false) c13) c18
noncomputable def c5 : Code := .cond (.tmp 12) (.seq (.region 2 r7 false) .ret) .skip
noncomputable def c0 : Code := .seq (.region 0 r1 false) (.seq (.seq (.region 1 r4 false) c5) c10)
theorem body : Tryd.f29.body = some c0 := by kernel_rfl
section
variable {base : Nat} {W0 : World} {β0 : Bt}
def J1 (k : Nat) (y0 : (List UInt8)) (y1 : (List UInt8)) (y21 : Bool) (S : HS) : Option (((List UInt8)) × HS) :=
  (if y21 = true then
  (Option.bind (sat y1 0) fun p6 =>
  (Option.bind (strings_trimRightByte.f k y0 (UInt8.toNat p6 : Int)) fun p7 =>
  (Option.bind (sat y1 0) fun p8 =>
  (Option.bind (strings_trimLeftByte.f k p7 (UInt8.toNat p8 : Int)) fun p9 =>
  some (p9, S))))) else
  (Option.bind (strings_makeASCIISet.f k y1 S) fun p10 =>
  (letv (HS.new p10.2 (.cells 256 [List.replicate 256 (.bool false)] true)) fun p11 =>
  (if List.length p10.1.1 = 256 ∧ List.all p10.1.1 HV.flat = true then
  (Option.bind (HS.sets p11 (HA.cell0 p10.2.next) p10.1.1) fun p13 =>
  (if p10.1.2 = true then
  (Option.bind (strings_trimRightASCII.f k y0 (some (HA.cell0 p10.2.next)) p13) fun p15 =>
  (Option.bind (strings_trimLeftASCII.f k p15.1 (some (HA.cell0 p10.2.next)) p15.2) fun p16 =>
  some (p16.1, p16.2))) else
  (Option.bind (strings_trimRightUnicode.f k y0 y1 p13) fun p17 =>
  (Option.bind (strings_trimLeftUnicode.f k p17.1 y1 p17.2) fun p18 =>
  some (p18.1, p18.2))))) else none))))
theorem J1_snd {k : Nat}  {y0 : (List UInt8)} {y1 : (List UInt8)} {y21 : Bool} {S : HS} {p : ((List UInt8)) × HS} {g2 g3 g4 g5 g6 g7 g8 g9 g10 g11 g12 g13 g14 g15 g16 g17 g18 g19 g20 g22 g23 g24 g25 g26 g27 g28 g29 g30 g31 g32 g33 g34 g35 g36 g37 g38 g39 g40 g41 g42 : HV} (h : J1 k y0 y1 y21 S = some p) : HRun Tryd.prog base W0 β0 29 none [.code c13, .code c18] ⟨[(.str y0), (.str y1), g2, g3, g4, g5, g6, g7, g8, g9, g10, g11, g12, g13, g14, g15, g16, g17, g18, g19, g20, (.bool y21), g22, g23, g24, g25, g26, g27, g28, g29, g30, g31, g32, g33, g34, g35, g36, g37, g38, g39, g40, g41, g42], []⟩ S (fun v S1 => v = (.str p.1) ∧ S1 = p.2) := by
  unfold J1 at h
  rcases ifc h with ⟨hc5, h⟩ | ⟨hc5, h⟩
  · refine q_cond_t rfl (.tmp rfl) hc5 ?_
    refine q_seq rfl ?_
    refine x_start (cls := [0, 0, 0, 0, 0, 0, 0, 0]) (rk := [0, 1, 2, 3, 4, 5, 6, 7]) rfl (by kernel_rfl) ?_
    refine yf 22 [0] rfl (ok_move · (.tmp rfl)) ?_
    refine yf 23 [1] rfl (ok_move · (.tmp rfl)) ?_
    obtain ⟨p6, hp6, h⟩ := bindo h
    refine yf 24 [23] rfl (ok_index_s · tu9 (.tmp rfl) (.int _ _) hp6) ?_
    obtain ⟨p7, hp7, h⟩ := bindo h
    refine x_go (f_call (dst := some 25) (ts := [22, 24]) rfl (by kernel_rfl) (.func _) (.cons (.tmp rfl) (.cons (.tmp rfl) Evs.nil)) (fun _ => (HInv.static strings_trimRightByte.at_ strings_trimRightByte.body (strings_trimRightByte.snd  hp7)))) rfl ?_
    try dsimp only [w0, w1, w2, w3]
    refine yf 26 [1] rfl (ok_move · (.tmp rfl)) ?_
    obtain ⟨p8, hp8, h⟩ := bindo h
    refine yf 27 [26] rfl (ok_index_s · tu9 (.tmp rfl) (.int _ _) hp8) ?_
    obtain ⟨p9, hp9, h⟩ := bindo h
    refine x_go (f_call (dst := some 28) (ts := [25, 27]) rfl (by kernel_rfl) (.func _) (.cons (.tmp rfl) (.cons (.tmp rfl) Evs.nil)) (fun _ => (HInv.static strings_trimLeftByte.at_ strings_trimLeftByte.body (strings_trimLeftByte.snd  hp9)))) rfl ?_
    refine yf 4 [28] rfl (ok_assign · (.tmp rfl)) ?_
    refine x_rest rfl ?_
    refine hr_region_end ?_
    try dsimp only [w0, w1, w2, w3]
    cases h
    exact q_ret rfl at_.at_ rfl (res1 rfl rfl) ⟨rfl, rfl⟩
  · refine q_cond_f rfl (.tmp rfl) (bfalse hc5) ?_
    refine q_skipc rfl ?_
    refine q_seq rfl ?_
    refine q_seq rfl ?_
    refine q_region rfl rfl ?_
    refine qS 30 rfl (ok_move · (.tmp rfl)) ?_
    obtain ⟨p10, hp10, h⟩ := bindo h
    refine q_call (dst := some 31) rfl (.func _) (.cons (.tmp rfl) Evs.nil) (HInv.static strings_makeASCIISet.at_ strings_makeASCIISet.body (strings_makeASCIISet.snd  hp10)) ?_
    rintro _ _ ⟨rfl, rfl⟩
    refine qS 29 rfl (ok_move · (.tmp rfl)) ?_
    refine qS 32 rfl (ok_extract · (.tmp rfl) rfl) ?_
    try dsimp only [w0, w1, w2, w3]
    refine qS 33 rfl (ok_extract · (.tmp rfl) rfl) ?_
    obtain ⟨p11, hp11, h⟩ := leto h
    refine qS 5 rfl (ok_alloc_arr · za54 (fun β => .bool _) (by decide) rfl hp11) ?_
    obtain ⟨hg12, h⟩ := gd h
    obtain ⟨p13, hp13, h⟩ := bindo h
    refine qN rfl (ok_store_arr · sz54 (.tmp rfl) rfl (.tmp rfl) hg12 hp13) ?_
    refine qS 6 rfl (ok_assign · (.tmp rfl)) ?_
    refine hr_region_end ?_
    try dsimp only [w0, w1, w2, w3]
    refine q_seq rfl ?_
    refine q_region rfl rfl ?_
    refine qS 34 rfl (ok_move · (.tmp rfl)) ?_
    refine hr_region_end ?_
    try dsimp only [w0, w1, w2, w3]
    rcases ifc h with ⟨hc14, h⟩ | ⟨hc14, h⟩
    · refine q_cond_t rfl (.tmp rfl) hc14 ?_
      refine q_seq rfl ?_
      refine q_region rfl rfl ?_
      refine qS 35 rfl (ok_move · (.tmp rfl)) ?_
      obtain ⟨p15, hp15, h⟩ := bindo h
      refine q_call (dst := some 36) rfl (.func _) (.cons (.tmp rfl) (.cons (.tmp rfl) Evs.nil)) (HInv.static strings_trimRightASCII.at_ strings_trimRightASCII.body (strings_trimRightASCII.snd  hp15)) ?_
      rintro _ _ ⟨rfl, rfl⟩
      obtain ⟨p16, hp16, h⟩ := bindo h
      refine q_call (dst := some 37) rfl (.func _) (.cons (.tmp rfl) (.cons (.tmp rfl) Evs.nil)) (HInv.static strings_trimLeftASCII.at_ strings_trimLeftASCII.body (strings_trimLeftASCII.snd  hp16)) ?_
      rintro _ _ ⟨rfl, rfl⟩
      refine qS 4 rfl (ok_assign · (.tmp rfl)) ?_
      refine hr_region_end ?_
      try dsimp only [w0, w1, w2, w3]
      cases h
      exact q_ret rfl at_.at_ rfl (res1 rfl rfl) ⟨rfl, rfl⟩
    · refine q_cond_f rfl (.tmp rfl) (bfalse hc14) ?_
      refine q_skipc rfl ?_
      refine q_seq rfl ?_
      refine q_region rfl rfl ?_
      refine qS 38 rfl (ok_move · (.tmp rfl)) ?_
      refine qS 39 rfl (ok_move · (.tmp rfl)) ?_
      obtain ⟨p17, hp17, h⟩ := bindo h
      refine q_call (dst := some 40) rfl (.func _) (.cons (.tmp rfl) (.cons (.tmp rfl) Evs.nil)) (HInv.static strings_trimRightUnicode.at_ strings_trimRightUnicode.body (strings_trimRightUnicode.snd  hp17)) ?_
      rintro _ _ ⟨rfl, rfl⟩
      refine qS 41 rfl (ok_move · (.tmp rfl)) ?_
      try dsimp only [w0, w1, w2, w3]
      obtain ⟨p18, hp18, h⟩ := bindo h
      refine q_call (dst := some 42) rfl (.func _) (.cons (.tmp rfl) (.cons (.tmp rfl) Evs.nil)) (HInv.static strings_trimLeftUnicode.at_ strings_trimLeftUnicode.body (strings_trimLeftUnicode.snd  hp18)) ?_
      rintro _ _ ⟨rfl, rfl⟩
      refine qS 4 rfl (ok_assign · (.tmp rfl)) ?_
      refine hr_region_end ?_
      try dsimp only [w0, w1, w2, w3]
      cases h
      exact q_ret rfl at_.at_ rfl (res1 rfl rfl) ⟨rfl, rfl⟩
def J0 (k : Nat) (y0 : (List UInt8)) (y1 : (List UInt8)) (y12 : Bool) (S : HS) : Option (((List UInt8)) × HS) :=
  (if y12 = true then
  some (y0, S) else
  (if (List.length y1 : Int) = 1 then
  (Option.bind (sat y1 0) fun p4 =>
  J1 k y0 y1 (decide ((UInt8.toNat p4 : Int) < 128)) S) else
  J1 k y0 y1 false S))
theorem J0_snd {k : Nat}  {y0 : (List UInt8)} {y1 : (List UInt8)} {y12 : Bool} {S : HS} {p : ((List UInt8)) × HS} {g2 g3 g4 g5 g6 g7 g8 g9 g10 g11 g13 g14 g15 g16 g17 g18 g19 g20 g21 g22 g23 g24 g25 g26 g27 g28 g29 g30 g31 g32 g33 g34 g35 g36 g37 g38 g39 g40 g41 g42 : HV} (h : J0 k y0 y1 y12 S = some p) : HRun Tryd.prog base W0 β0 29 none [.code c5, .code c10] ⟨[(.str y0), (.str y1), g2, g3, g4, g5, g6, g7, g8, g9, g10, g11, (.bool y12), g13, g14, g15, g16, g17, g18, g19, g20, g21, g22, g23, g24, g25, g26, g27, g28, g29, g30, g31, g32, g33, g34, g35, g36, g37, g38, g39, g40, g41, g42], []⟩ S (fun v S1 => v = (.str p.1) ∧ S1 = p.2) := by
  unfold J0 at h
  rcases ifc h with ⟨hc2, h⟩ | ⟨hc2, h⟩
  · refine q_cond_t rfl (.tmp rfl) hc2 ?_
    refine q_seq rfl ?_
    refine q_region rfl rfl ?_
    refine qS 13 rfl (ok_move · (.tmp rfl)) ?_
    refine qS 4 rfl (ok_assign · (.tmp rfl)) ?_
    refine hr_region_end ?_
    try dsimp only [w0, w1, w2, w3]
    cases h
    exact q_ret rfl at_.at_ rfl (res1 rfl rfl) ⟨rfl, rfl⟩
  · refine q_cond_f rfl (.tmp rfl) (bfalse hc2) ?_
    refine q_skipc rfl ?_
    refine q_seq rfl ?_
    refine q_seq rfl ?_
    refine q_region rfl rfl ?_
    refine qS 14 rfl (ok_move · (.tmp rfl)) ?_
    refine qS 15 rfl (ok_len_str · rfl tu9 (.tmp rfl)) ?_
    refine qS 16 rfl (ok_ibin · (.tmp rfl) (.int _ _) rfl) ?_
    refine qS 17 rfl (ok_move · (.tmp rfl)) ?_
    try dsimp only [w0, w1, w2, w3]
    rcases ifc h with ⟨hc3, h⟩ | ⟨hc3, h⟩
    · refine qG 17 18 rfl (decide_eq_true hc3) (ok_move · (.tmp rfl)) ?_
      obtain ⟨p4, hp4, h⟩ := bindo h
      refine qG 17 19 rfl (decide_eq_true hc3) (ok_index_s · tu9 (.tmp rfl) (.int _ _) hp4) ?_
      refine qG 17 20 rfl (decide_eq_true hc3) (ok_ibin · (.tmp rfl) (.int _ _) rfl) ?_
      refine qS 21 rfl (ok_pick_tt · (.tmp rfl) (decide_eq_true hc3) (.tmp rfl)) ?_
      refine hr_region_end ?_
      try dsimp only [w0, w1, w2, w3]
      try dsimp only [w0, w1, w2, w3]
      exact J1_snd  h
    · refine q_skip (dst := some 18) (t := 17) rfl rfl rfl (decide_eq_false hc3) ?_
      refine q_skip (dst := some 19) (t := 17) rfl rfl rfl (decide_eq_false hc3) ?_
      refine q_skip (dst := some 20) (t := 17) rfl rfl rfl (decide_eq_false hc3) ?_
      refine qS 21 rfl (ok_pick_ff · (.tmp rfl) (decide_eq_false hc3) (.bool _)) ?_
      refine hr_region_end ?_
      try dsimp only [w0, w1, w2, w3]
      try dsimp only [w0, w1, w2, w3]
      exact J1_snd  h
def f (k : Nat) (x0 : (List UInt8)) (x1 : (List UInt8)) (S : HS) : Option (((List UInt8)) × HS) :=
  (if x0 = ([] : List UInt8) then
  J0 k x0 x1 true S else
  J0 k x0 x1 (decide (x1 = ([] : List UInt8))) S)
theorem snd {k : Nat} {x0 : (List UInt8)} {x1 : (List UInt8)} {S : HS}  {p : ((List UInt8)) × HS} (h : f k x0 x1 S = some p) : HCall Tryd.prog base W0 β0 29 [(.str x0), (.str x1)] S (fun v S1 => v = (.str p.1) ∧ S1 = p.2) := by
  unfold f at h
  refine HCall.of_run at_.at_ body ?_
  show HRun Tryd.prog base W0 β0 29 none [.code c0] ⟨[(.str x0), (.str x1), τ, τ, τ, τ, τ, τ, τ, τ, τ, τ, τ, τ, τ, τ, τ, τ, τ, τ, τ, τ, τ, τ, τ, τ, τ, τ, τ, τ, τ, τ, τ, τ, τ, τ, τ, τ, τ, τ, τ, τ, τ], []⟩ S _
  refine q_seq rfl ?_
  refine q_region rfl rfl ?_
  refine qS 4 rfl (ok_assign · (.str _)) ?_
  refine hr_region_end ?_
  try dsimp only [w0, w1, w2, w3]
  refine q_seq rfl ?_
  refine q_seq rfl ?_
  refine q_region rfl rfl ?_
  refine qS 7 rfl (ok_move · (.tmp rfl)) ?_
  refine qS 8 rfl (ok_sbin · (.tmp rfl) (.str _) rfl) ?_
  refine qS 9 rfl (ok_move · (.tmp rfl)) ?_
  rcases ifc h with ⟨hc1, h⟩ | ⟨hc1, h⟩
  · refine q_skip (dst := some 10) (t := 9) rfl rfl rfl (decide_eq_true hc1) ?_
    try dsimp only [w0, w1, w2, w3]
    refine q_skip (dst := some 11) (t := 9) rfl rfl rfl (decide_eq_true hc1) ?_
    refine qS 12 rfl (ok_pick_tt · (.tmp rfl) (decide_eq_true hc1) (.bool _)) ?_
    refine hr_region_end ?_
    try dsimp only [w0, w1, w2, w3]
    try dsimp only [w0, w1, w2, w3]
    exact J0_snd  h
  · refine qG 9 10 rfl (decide_eq_false hc1) (ok_move · (.tmp rfl)) ?_
    try dsimp only [w0, w1, w2, w3]
    refine qG 9 11 rfl (decide_eq_false hc1) (ok_sbin · (.tmp rfl) (.str _) rfl) ?_
    refine qS 12 rfl (ok_pick_ff · (.tmp rfl) (decide_eq_false hc1) (.tmp rfl)) ?_
    refine hr_region_end ?_
    try dsimp only [w0, w1, w2, w3]
    try dsimp only [w0, w1, w2, w3]
    exact J0_snd  h
end
end strings_Trim
namespace glob_Match
theorem at_ : FnAt Tryd.prog 13 Tryd.f13 := ⟨Tryd.func13, by kernel_rfl⟩
noncomputable def d0 := (Tryd.f13.body).getD .skip
noncomputable def r1 := kR (kA d0)
noncomputable def r4 := kR (kA (kA (kB d0)))
noncomputable def d5 := kB (kA (kB d0))
noncomputable def r6 := kR (kA d5)
noncomputable def d10 := kA (kB (kB d5))
noncomputable def r14 := kR (kA (kA (kA (kA d10))))
noncomputable def d18 := kB (kA (kA d10))
noncomputable def d21 := kA (kA (kA d18))
noncomputable def r22 := kR (kA d21)
noncomputable def r25 := kR (kA (kA (kB d21)))
noncomputable def r27 := kR (kA (kB (kA (kB d21))))
noncomputable def r30 := kR (kA (kB (kB d21)))
noncomputable def d31 := kB (kB (kB d21))
noncomputable def r33 := kR (kA (kA d31))
noncomputable def r35 := kR (kA (kB (kA d31)))
noncomputable def r38 := kR (kA (kB d31))
noncomputable def r41 := kR (kA (kA (kB (kB d31))))
noncomputable def r45 := kR (kA (kB (kA d18)))
noncomputable def r46 := kR (kB (kB (kA d18)))
noncomputable def r48 := kR (kA (kB (kB (kB d5))))
noncomputable def c47 : Code := .seq (.region 14 r48 false) .ret
noncomputable def c44 : Code := .seq (.region 12 r45 false) (.region 13 r46 false)
noncomputable def c23 : Code := .cond (.tmp 13) (.seq (.region 5 r25 false) (.seq (.region 6 r27 false) (.exit 1))) (.seq (.region 7 r30 true) (.cond (.tmp 28) (.seq (.region 8 r33 false) (.seq (.region 9 r35 false) (.exit 1))) (.seq (.region 10 r38 false) (.cond (.tmp 46) (.seq (.region 11 r41 false) .ret) .skip))))
noncomputable def c12 : Code := .seq (.seq (.region 3 r14 false) (.cond (.tmp 12) .skip (.exit 0))) (.block 1 (.seq (.block 2 (.seq (.region 4 r22 false) c23)) c44))
noncomputable def c3 : Code := .seq (.region 1 r4 false) (.seq (.region 2 r6 false) (.seq (.label 0) (.seq (.block 0 (.loop c12)) c47)))
noncomputable def c0 : Code := .seq (.region 0 r1 false) (.scope c3)
theorem body : Tryd.f13.body = some c0 := by kernel_rfl
section
variable {base : Nat} {W0 : World} {β0 : Bt}
def J1 (k : Nat) (rec0 : (List UInt8) → (List UInt8) → Int → Int → Int → Int → HS → Option ((Bool) × HS)) (y0 : (List UInt8)) (y1 : (List UInt8)) (y5 : Int) (y6 : Int) (y7 : Int) (y8 : Int) (y23 : Bool) (S : HS) : Option ((Bool) × HS) :=
  (if y23 = true then
  rec0 y0 y1 y5 (w64 (y6 + 1)) y6 y5 S else
  (if y6 < (List.length y0 : Int) then
  (Option.bind (sat y0 y6) fun p6 =>
  (Option.bind (sat y1 y5) fun p7 =>
  (Option.bind (glob_one.f (UInt8.toNat p6 : Int) (UInt8.toNat p7 : Int)) fun p8 =>
  (if p8 = true then
  rec0 y0 y1 (w64 (y5 + 1)) (w64 (y6 + 1)) y7 y8 S else
  (if y7 < 0 then
  some (false, S) else
  rec0 y0 y1 (w64 (y8 + 1)) (w64 (y7 + 1)) y7 (w64 (y8 + 1)) S))))) else
  (if y7 < 0 then
  some (false, S) else
  rec0 y0 y1 (w64 (y8 + 1)) (w64 (y7 + 1)) y7 (w64 (y8 + 1)) S)))
theorem J1_snd {k : Nat} {rec0 : (List UInt8) → (List UInt8) → Int → Int → Int → Int → HS → Option ((Bool) × HS)} (hrec0 : ∀ ⦃y0 : (List UInt8)⦄ ⦃y1 : (List UInt8)⦄ ⦃y5 : Int⦄ ⦃y6 : Int⦄ ⦃y7 : Int⦄ ⦃y8 : Int⦄ ⦃S : HS⦄ ⦃p : (Bool) × HS⦄ ⦃g2 g3 g4 g9 g10 g11 g12 g13 g14 g15 g16 g17 g18 g19 g20 g21 g22 g23 g24 g25 g26 g27 g28 g29 g30 g31 g32 g33 g34 g35 g36 g37 g38 g39 g40 g41 g42 g43 g44 g45 g46 g47 g48 g49 g50 g51 g52 g53 g54 g55 g56 g57 g58 : HV⦄, rec0 y0 y1 y5 y6 y7 y8 S = some p → HRun Tryd.prog base W0 β0 13 none [.inLoop c12, .inBlock 0, .code c47, .inScope c3] ⟨[(.str y0), (.str y1), g2, g3, g4, (.int .i64 y5), (.int .i64 y6), (.int .i64 y7), (.int .i64 y8), g9, g10, g11, g12, g13, g14, g15, g16, g17, g18, g19, g20, g21, g22, g23, g24, g25, g26, g27, g28, g29, g30, g31, g32, g33, g34, g35, g36, g37, g38, g39, g40, g41, g42, g43, g44, g45, g46, g47, g48, g49, g50, g51, g52, g53, g54, g55, g56, g57, g58], []⟩ S (fun v S1 => v = (.bool p.1) ∧ S1 = p.2)) {y0 : (List UInt8)} {y1 : (List UInt8)} {y5 : Int} {y6 : Int} {y7 : Int} {y8 : Int} {y23 : Bool} {S : HS} {p : (Bool) × HS} {g2 g3 g4 g9 g10 g11 g12 g13 g14 g15 g16 g17 g18 g19 g20 g21 g22 g24 g25 g26 g27 g28 g29 g30 g31 g32 g33 g34 g35 g36 g37 g38 g39 g40 g41 g42 g43 g44 g45 g46 g47 g48 g49 g50 g51 g52 g53 g54 g55 g56 g57 g58 : HV} (h : J1 k rec0 y0 y1 y5 y6 y7 y8 y23 S = some p) : HRun Tryd.prog base W0 β0 13 none [.inRegion r22 [10], .code c23, .inBlock 2, .code c44, .inBlock 1, .inLoop c12, .inBlock 0, .code c47, .inScope c3] ⟨[(.str y0), (.str y1), g2, g3, g4, (.int .i64 y5), (.int .i64 y6), (.int .i64 y7), (.int .i64 y8), g9, g10, g11, g12, g13, g14, g15, g16, g17, g18, g19, g20, g21, g22, (.bool y23), g24, g25, g26, g27, g28, g29, g30, g31, g32, g33, g34, g35, g36, g37, g38, g39, g40, g41, g42, g43, g44, g45, g46, g47, g48, g49, g50, g51, g52, g53, g54, g55, g56, g57, g58], []⟩ S (fun v S1 => v = (.bool p.1) ∧ S1 = p.2) := by
  unfold J1 at h
  refine qS 13 rfl (ok_assign · (.tmp rfl)) ?_
  refine hr_region_end ?_
  try dsimp only [w0, w1, w2, w3]
  rcases ifc h with ⟨hc4, h⟩ | ⟨hc4, h⟩
  · refine q_cond_t rfl (.tmp rfl) hc4 ?_
    refine q_seq rfl ?_
    refine q_region rfl rfl ?_
    refine qS 24 rfl (ok_move · (.tmp rfl)) ?_
    refine qS 25 rfl (ok_move · (.tmp rfl)) ?_
    refine qS 7 rfl (ok_assign · (.tmp rfl)) ?_
    refine qS 8 rfl (ok_assign · (.tmp rfl)) ?_
    refine hr_region_end ?_
    try dsimp only [w0, w1, w2, w3]
    refine q_seq rfl ?_
    refine q_region rfl rfl ?_
    refine qS 26 rfl (ok_move · (.tmp rfl)) ?_
    refine qS 27 rfl (ok_ibin · (.tmp rfl) (.int _ _) rfl) ?_
    refine qS 6 rfl (ok_assign · (.tmp rfl)) ?_
    refine hr_region_end ?_
    try dsimp only [w0, w1, w2, w3]
    refine q_exit rfl rfl ?_
    try dsimp only [w0, w1, w2, w3]
    exact hrec0 h
  · refine q_cond_f rfl (.tmp rfl) (bfalse hc4) ?_
    refine q_seq rfl ?_
    refine x_start (cls := [0, 0, 0, 0, 0, 0, 0, 0, 0, 0, 0, 0, 0, 0]) (rk := [0, 1, 2, 3, 4, 5, 6, 7, 8, 9, 10, 11, 12, 13]) rfl (by kernel_rfl) ?_
    refine yf 29 [6] rfl (ok_move · (.tmp rfl)) ?_
    refine yf 30 [0] rfl (ok_move · (.tmp rfl)) ?_
    refine yf 31 [30] rfl (ok_len_str · rfl tu9 (.tmp rfl)) ?_
    refine yf 32 [29, 31] rfl (ok_ibin · (.tmp rfl) (.tmp rfl) rfl) ?_
    try dsimp only [w0, w1, w2, w3]
    refine yf 33 [32] rfl (ok_move · (.tmp rfl)) ?_
    rcases ifc h with ⟨hc5, h⟩ | ⟨hc5, h⟩
    · refine yfg 34 33 [0, 33] rfl (decide_eq_true hc5) (ok_move · (.tmp rfl)) ?_
      refine yfg 35 33 [6, 33] rfl (decide_eq_true hc5) (ok_move · (.tmp rfl)) ?_
      obtain ⟨p6, hp6, h⟩ := bindo h
      refine yfg 36 33 [34, 35, 33] rfl (decide_eq_true hc5) (ok_index_s · tu9 (.tmp rfl) (.tmp rfl) hp6) ?_
      try dsimp only [w0, w1, w2, w3]
      refine yfg 37 33 [1, 33] rfl (decide_eq_true hc5) (ok_move · (.tmp rfl)) ?_
      refine yfg 38 33 [5, 33] rfl (decide_eq_true hc5) (ok_move · (.tmp rfl)) ?_
      obtain ⟨p7, hp7, h⟩ := bindo h
      refine yfg 39 33 [37, 38, 33] rfl (decide_eq_true hc5) (ok_index_s · tu9 (.tmp rfl) (.tmp rfl) hp7) ?_
      obtain ⟨p8, hp8, h⟩ := bindo h
      refine x_go (f_call_g (dst := some 40) (t := 33) (ts := [36, 39, 33]) rfl (by kernel_rfl) rfl rfl (decide_eq_true hc5) (.func _) (.cons (.tmp rfl) (.cons (.tmp rfl) Evs.nil)) (fun _ => (HInv.static glob_one.at_ glob_one.body (glob_one.snd  hp8)))) rfl ?_
      try dsimp only [w0, w1, w2, w3]
      refine yf 41 [33, 40] rfl (ok_pick_tt · (.tmp rfl) (decide_eq_true hc5) (.tmp rfl)) ?_
      refine yf 28 [41] rfl (ok_assign · (.tmp rfl)) ?_
      refine x_rest rfl ?_
      refine hr_region_end ?_
      try dsimp only [w0, w1, w2, w3]
      rcases ifc h with ⟨hc9, h⟩ | ⟨hc9, h⟩
      · refine q_cond_t rfl (.tmp rfl) hc9 ?_
        refine q_seq rfl ?_
        refine q_region rfl rfl ?_
        refine qS 42 rfl (ok_move · (.tmp rfl)) ?_
        refine qS 43 rfl (ok_ibin · (.tmp rfl) (.int _ _) rfl) ?_
        refine qS 5 rfl (ok_assign · (.tmp rfl)) ?_
        refine hr_region_end ?_
        try dsimp only [w0, w1, w2, w3]
        refine q_seq rfl ?_
        refine q_region rfl rfl ?_
        refine qS 44 rfl (ok_move · (.tmp rfl)) ?_
        refine qS 45 rfl (ok_ibin · (.tmp rfl) (.int _ _) rfl) ?_
        refine qS 6 rfl (ok_assign · (.tmp rfl)) ?_
        refine hr_region_end ?_
        try dsimp only [w0, w1, w2, w3]
        refine q_exit rfl rfl ?_
        try dsimp only [w0, w1, w2, w3]
        exact hrec0 h
      · refine q_cond_f rfl (.tmp rfl) (bfalse hc9) ?_
        refine q_seq rfl ?_
        refine q_region rfl rfl ?_
        refine qS 47 rfl (ok_move · (.tmp rfl)) ?_
        refine qS 48 rfl (ok_ibin · (.tmp rfl) (.int _ _) rfl) ?_
        refine qS 46 rfl (ok_assign · (.tmp rfl)) ?_
        refine hr_region_end ?_
        try dsimp only [w0, w1, w2, w3]
        rcases ifc h with ⟨hc10, h⟩ | ⟨hc10, h⟩
        · refine q_cond_t rfl (.tmp rfl) (decide_eq_true hc10) ?_
          refine q_seq rfl ?_
          refine q_region rfl rfl ?_
          refine qS 4 rfl (ok_assign · (.bool _)) ?_
          refine hr_region_end ?_
          try dsimp only [w0, w1, w2, w3]
          cases h
          exact q_ret rfl at_.at_ rfl (res1 rfl rfl) ⟨rfl, rfl⟩
        · refine q_cond_f rfl (.tmp rfl) (decide_eq_false hc10) ?_
          refine q_skipc rfl ?_
          refine hr_inBlock ?_
          refine q_seq rfl ?_
          refine q_region rfl rfl ?_
          refine qS 49 rfl (ok_move · (.tmp rfl)) ?_
          refine qS 50 rfl (ok_ibin · (.tmp rfl) (.int _ _) rfl) ?_
          refine qS 8 rfl (ok_assign · (.tmp rfl)) ?_
          refine hr_region_end ?_
          try dsimp only [w0, w1, w2, w3]
          refine q_region rfl rfl ?_
          refine qS 51 rfl (ok_move · (.tmp rfl)) ?_
          refine qS 52 rfl (ok_move · (.tmp rfl)) ?_
          refine qS 53 rfl (ok_ibin · (.tmp rfl) (.int _ _) rfl) ?_
          refine qS 5 rfl (ok_assign · (.tmp rfl)) ?_
          try dsimp only [w0, w1, w2, w3]
          refine qS 6 rfl (ok_assign · (.tmp rfl)) ?_
          refine hr_region_end ?_
          try dsimp only [w0, w1, w2, w3]
          refine hr_inBlock ?_
          try dsimp only [w0, w1, w2, w3]
          exact hrec0 h
    · refine yfs 34 33 [0, 33] rfl (decide_eq_false hc5) ?_
      refine yfs 35 33 [6, 33] rfl (decide_eq_false hc5) ?_
      refine yfs 36 33 [34, 35, 33] rfl (decide_eq_false hc5) ?_
      try dsimp only [w0, w1, w2, w3]
      refine yfs 37 33 [1, 33] rfl (decide_eq_false hc5) ?_
      refine yfs 38 33 [5, 33] rfl (decide_eq_false hc5) ?_
      refine yfs 39 33 [37, 38, 33] rfl (decide_eq_false hc5) ?_
      refine yfs 40 33 [36, 39, 33] rfl (decide_eq_false hc5) ?_
      try dsimp only [w0, w1, w2, w3]
      refine yf 41 [33, 40] rfl (ok_pick_ff · (.tmp rfl) (decide_eq_false hc5) (.bool _)) ?_
      refine yf 28 [41] rfl (ok_assign · (.tmp rfl)) ?_
      refine x_rest rfl ?_
      refine hr_region_end ?_
      try dsimp only [w0, w1, w2, w3]
      refine q_cond_f rfl (.tmp rfl) rfl ?_
      refine q_seq rfl ?_
      refine q_region rfl rfl ?_
      refine qS 47 rfl (ok_move · (.tmp rfl)) ?_
      refine qS 48 rfl (ok_ibin · (.tmp rfl) (.int _ _) rfl) ?_
      refine qS 46 rfl (ok_assign · (.tmp rfl)) ?_
      refine hr_region_end ?_
      try dsimp only [w0, w1, w2, w3]
      rcases ifc h with ⟨hc11, h⟩ | ⟨hc11, h⟩
      · refine q_cond_t rfl (.tmp rfl) (decide_eq_true hc11) ?_
        refine q_seq rfl ?_
        refine q_region rfl rfl ?_
        refine qS 4 rfl (ok_assign · (.bool _)) ?_
        refine hr_region_end ?_
        try dsimp only [w0, w1, w2, w3]
        cases h
        exact q_ret rfl at_.at_ rfl (res1 rfl rfl) ⟨rfl, rfl⟩
      · refine q_cond_f rfl (.tmp rfl) (decide_eq_false hc11) ?_
        refine q_skipc rfl ?_
        refine hr_inBlock ?_
        refine q_seq rfl ?_
        refine q_region rfl rfl ?_
        refine qS 49 rfl (ok_move · (.tmp rfl)) ?_
        refine qS 50 rfl (ok_ibin · (.tmp rfl) (.int _ _) rfl) ?_
        refine qS 8 rfl (ok_assign · (.tmp rfl)) ?_
        refine hr_region_end ?_
        try dsimp only [w0, w1, w2, w3]
        refine q_region rfl rfl ?_
        refine qS 51 rfl (ok_move · (.tmp rfl)) ?_
        refine qS 52 rfl (ok_move · (.tmp rfl)) ?_
        refine qS 53 rfl (ok_ibin · (.tmp rfl) (.int _ _) rfl) ?_
        refine qS 5 rfl (ok_assign · (.tmp rfl)) ?_
        try dsimp only [w0, w1, w2, w3]
        refine qS 6 rfl (ok_assign · (.tmp rfl)) ?_
        refine hr_region_end ?_
        try dsimp only [w0, w1, w2, w3]
        refine hr_inBlock ?_
        try dsimp only [w0, w1, w2, w3]
        exact hrec0 h
def L0 (k : Nat) : Nat → (List UInt8) → (List UInt8) → Int → Int → Int → Int → HS → Option ((Bool) × HS)
  | 0, _, _, _, _, _, _, _ => none
  | n + 1, y0, y1, y5, y6, y7, y8, S =>
    (if y5 < (List.length y1 : Int) then
    (if y6 < (List.length y0 : Int) then
    (Option.bind (sat y0 y6) fun p3 =>
    J1 k (L0 k n) y0 y1 y5 y6 y7 y8 (decide ((UInt8.toNat p3 : Int) = 42)) S) else
    J1 k (L0 k n) y0 y1 y5 y6 y7 y8 false S) else
    (if 0 ≤ (y6 : Int) ∧ (y6 : Int) ≤ (List.length y0 : Int) ∧ ((List.length y0 : Int) : Int) ≤ (List.length y0 : Int) then
    (Option.bind (strings_Trim.f k (ssub y0 y6 (List.length y0 : Int)) ([42] : List UInt8) S) fun p13 =>
    some ((decide (p13.1 = ([] : List UInt8))), p13.2)) else none))
theorem L0_snd {k : Nat}  : ∀ {n : Nat} ⦃y0 : (List UInt8)⦄ ⦃y1 : (List UInt8)⦄ ⦃y5 : Int⦄ ⦃y6 : Int⦄ ⦃y7 : Int⦄ ⦃y8 : Int⦄ ⦃S : HS⦄ ⦃p : (Bool) × HS⦄ ⦃g2 g3 g4 g9 g10 g11 g12 g13 g14 g15 g16 g17 g18 g19 g20 g21 g22 g23 g24 g25 g26 g27 g28 g29 g30 g31 g32 g33 g34 g35 g36 g37 g38 g39 g40 g41 g42 g43 g44 g45 g46 g47 g48 g49 g50 g51 g52 g53 g54 g55 g56 g57 g58 : HV⦄, L0 k n y0 y1 y5 y6 y7 y8 S = some p → HRun Tryd.prog base W0 β0 13 none [.inLoop c12, .inBlock 0, .code c47, .inScope c3] ⟨[(.str y0), (.str y1), g2, g3, g4, (.int .i64 y5), (.int .i64 y6), (.int .i64 y7), (.int .i64 y8), g9, g10, g11, g12, g13, g14, g15, g16, g17, g18, g19, g20, g21, g22, g23, g24, g25, g26, g27, g28, g29, g30, g31, g32, g33, g34, g35, g36, g37, g38, g39, g40, g41, g42, g43, g44, g45, g46, g47, g48, g49, g50, g51, g52, g53, g54, g55, g56, g57, g58], []⟩ S (fun v S1 => v = (.bool p.1) ∧ S1 = p.2) := by
  intro n
  induction n with
  | zero => intro _ _ _ _ _ _ _ _ _ _ _ _ _ _ _ _ _ _ _ _ _ _ _ _ _ _ _ _ _ _ _ _ _ _ _ _ _ _ _ _ _ _ _ _ _ _ _ _ _ _ _ _ _ _ _ _ _ _ _ _ _ h; cases h
  | succ n ih =>
    intro y0 y1 y5 y6 y7 y8 S p g2 g3 g4 g9 g10 g11 g12 g13 g14 g15 g16 g17 g18 g19 g20 g21 g22 g23 g24 g25 g26 g27 g28 g29 g30 g31 g32 g33 g34 g35 g36 g37 g38 g39 g40 g41 g42 g43 g44 g45 g46 g47 g48 g49 g50 g51 g52 g53 g54 g55 g56 g57 g58 h
    simp only [L0] at h
    refine hr_inLoop ?_
    refine q_seq rfl ?_
    refine q_seq rfl ?_
    refine q_region rfl rfl ?_
    refine qS 9 rfl (ok_move · (.tmp rfl)) ?_
    refine qS 10 rfl (ok_move · (.tmp rfl)) ?_
    refine qS 11 rfl (ok_len_str · rfl tu9 (.tmp rfl)) ?_
    refine qS 12 rfl (ok_ibin · (.tmp rfl) (.tmp rfl) rfl) ?_
    refine hr_region_end ?_
    try dsimp only [w0, w1, w2, w3]
    rcases ifc h with ⟨hc1, h⟩ | ⟨hc1, h⟩
    · refine q_cond_t rfl (.tmp rfl) (decide_eq_true hc1) ?_
      refine q_skipc rfl ?_
      refine q_block rfl ?_
      refine q_seq rfl ?_
      refine q_block rfl ?_
      refine q_seq rfl ?_
      refine q_region rfl rfl ?_
      refine qS 14 rfl (ok_move · (.tmp rfl)) ?_
      refine qS 15 rfl (ok_move · (.tmp rfl)) ?_
      refine qS 16 rfl (ok_len_str · rfl tu9 (.tmp rfl)) ?_
      refine qS 17 rfl (ok_ibin · (.tmp rfl) (.tmp rfl) rfl) ?_
      try dsimp only [w0, w1, w2, w3]
      refine qS 18 rfl (ok_move · (.tmp rfl)) ?_
      rcases ifc h with ⟨hc2, h⟩ | ⟨hc2, h⟩
      · refine qG 18 19 rfl (decide_eq_true hc2) (ok_move · (.tmp rfl)) ?_
        refine qG 18 20 rfl (decide_eq_true hc2) (ok_move · (.tmp rfl)) ?_
        obtain ⟨p3, hp3, h⟩ := bindo h
        refine qG 18 21 rfl (decide_eq_true hc2) (ok_index_s · tu9 (.tmp rfl) (.tmp rfl) hp3) ?_
        try dsimp only [w0, w1, w2, w3]
        refine qG 18 22 rfl (decide_eq_true hc2) (ok_ibin · (.tmp rfl) (.int _ _) rfl) ?_
        refine qS 23 rfl (ok_pick_tt · (.tmp rfl) (decide_eq_true hc2) (.tmp rfl)) ?_
        try dsimp only [w0, w1, w2, w3]
        exact J1_snd ih h
      · refine q_skip (dst := some 19) (t := 18) rfl rfl rfl (decide_eq_false hc2) ?_
        refine q_skip (dst := some 20) (t := 18) rfl rfl rfl (decide_eq_false hc2) ?_
        refine q_skip (dst := some 21) (t := 18) rfl rfl rfl (decide_eq_false hc2) ?_
        try dsimp only [w0, w1, w2, w3]
        refine q_skip (dst := some 22) (t := 18) rfl rfl rfl (decide_eq_false hc2) ?_
        refine qS 23 rfl (ok_pick_ff · (.tmp rfl) (decide_eq_false hc2) (.bool _)) ?_
        try dsimp only [w0, w1, w2, w3]
        exact J1_snd ih h
    · refine q_cond_f rfl (.tmp rfl) (decide_eq_false hc1) ?_
      refine q_exit rfl rfl ?_
      refine q_seq rfl ?_
      refine q_region rfl rfl ?_
      refine qS 54 rfl (ok_move · (.tmp rfl)) ?_
      refine qS 55 rfl (ok_move · (.tmp rfl)) ?_
      obtain ⟨hg12, h⟩ := gd h
      refine qS 56 rfl (ok_slice_str (kl := .i64) (kh := .i64) (l := y6) (h := (List.length y0 : Int)) · tu9 (.tmp rfl) (.inr ⟨_, rfl, (.tmp rfl)⟩) (.inl ⟨rfl, rfl⟩) hg12.1 hg12.2.1 hg12.2.2) ?_
      obtain ⟨p13, hp13, h⟩ := bindo h
      refine q_call (dst := some 57) rfl (.func _) (.cons (.tmp rfl) (.cons (.str _) Evs.nil)) (HInv.static strings_Trim.at_ strings_Trim.body (strings_Trim.snd  hp13)) ?_
      rintro _ _ ⟨rfl, rfl⟩
      try dsimp only [w0, w1, w2, w3]
      refine qS 58 rfl (ok_sbin · (.tmp rfl) (.str _) rfl) ?_
      refine qS 4 rfl (ok_assign · (.tmp rfl)) ?_
      refine hr_region_end ?_
      try dsimp only [w0, w1, w2, w3]
      cases h
      exact q_ret rfl at_.at_ rfl (res1 rfl rfl) ⟨rfl, rfl⟩
def f (k : Nat) (x0 : (List UInt8)) (x1 : (List UInt8)) (S : HS) : Option ((Bool) × HS) :=
  L0 k k x0 x1 0 0 (-1) 0 S
theorem snd {k : Nat} {x0 : (List UInt8)} {x1 : (List UInt8)} {S : HS}  {p : (Bool) × HS} (h : f k x0 x1 S = some p) : HCall Tryd.prog base W0 β0 13 [(.str x0), (.str x1)] S (fun v S1 => v = (.bool p.1) ∧ S1 = p.2) := by
  unfold f at h
  refine HCall.of_run at_.at_ body ?_
  show HRun Tryd.prog base W0 β0 13 none [.code c0] ⟨[(.str x0), (.str x1), τ, τ, τ, τ, τ, τ, τ, τ, τ, τ, τ, τ, τ, τ, τ, τ, τ, τ, τ, τ, τ, τ, τ, τ, τ, τ, τ, τ, τ, τ, τ, τ, τ, τ, τ, τ, τ, τ, τ, τ, τ, τ, τ, τ, τ, τ, τ, τ, τ, τ, τ, τ, τ, τ, τ, τ, τ], []⟩ S _
  refine q_seq rfl ?_
  refine q_region rfl rfl ?_
  refine qS 4 rfl (ok_assign · (.bool _)) ?_
  refine hr_region_end ?_
  try dsimp only [w0, w1, w2, w3]
  refine q_scope rfl ?_
  refine q_seq rfl ?_
  refine q_region rfl rfl ?_
  refine qS 5 rfl (ok_assign · (.int _ _)) ?_
  refine qS 6 rfl (ok_assign · (.int _ _)) ?_
  refine hr_region_end ?_
  try dsimp only [w0, w1, w2, w3]
  refine q_seq rfl ?_
  refine q_region rfl rfl ?_
  refine qS 7 rfl (ok_assign · (.int _ _)) ?_
  refine qS 8 rfl (ok_assign · (.int _ _)) ?_
  refine hr_region_end ?_
  try dsimp only [w0, w1, w2, w3]
  refine q_seq rfl ?_
  refine q_label rfl ?_
  refine q_seq rfl ?_
  refine q_block rfl ?_
  refine q_loop rfl ?_
  try dsimp only [w0, w1, w2, w3]
  exact L0_snd  h
end
end glob_Match
namespace rollcalllaw04_awake
theorem at_ : FnAt Tryd.prog 9 Tryd.f9 := ⟨Tryd.func9, by kernel_rfl⟩
noncomputable def d0 := (Tryd.f9.body).getD .skip
noncomputable def r1 := kR (kA d0)
noncomputable def r3 := kR (kA (kB d0))
noncomputable def c4 : Code := .ret
noncomputable def c0 : Code := .seq (.region 0 r1 false) (.seq (.region 1 r3 false) c4)
theorem body : Tryd.f9.body = some c0 := by kernel_rfl
section
variable {base : Nat} {W0 : World} {β0 : Bt}
def J3 (k : Nat) (y17 : Bool) (S : HS) : Option ((Bool) × HS) :=
  some (y17, S)
theorem J3_snd {k : Nat}  {y17 : Bool} {S : HS} {p : (Bool) × HS} {g0 g1 g2 g3 g4 g5 g6 g7 g8 g9 g10 g11 g12 g13 g14 g15 g16 : HV} (h : J3 k y17 S = some p) : HRun Tryd.prog base W0 β0 9 none [.inRegion r3 [17], .code c4] ⟨[g0, g1, g2, g3, g4, g5, g6, g7, g8, g9, g10, g11, g12, g13, g14, g15, g16, (.bool y17)], []⟩ S (fun v S1 => v = (.bool p.1) ∧ S1 = p.2) := by
  unfold J3 at h
  refine qS 0 rfl (ok_assign · (.tmp rfl)) ?_
  refine hr_region_end ?_
  try dsimp only [w0, w1, w2, w3]
  cases h
  exact q_ret rfl at_.at_ rfl (res1 rfl rfl) ⟨rfl, rfl⟩
def J2 (k : Nat) (y14 : Bool) (S : HS) : Option ((Bool) × HS) :=
  (if y14 = true then
  (Option.bind (glob_Match.f k ([66, 42, 98] : List UInt8) ([98, 111, 98] : List UInt8) S) fun p9 =>
  J3 k p9.1 p9.2) else
  J3 k false S)
theorem J2_snd {k : Nat}  {y14 : Bool} {S : HS} {p : (Bool) × HS} {g0 g1 g2 g3 g4 g5 g6 g7 g8 g9 g10 g11 g12 g13 g15 g16 g17 : HV} (h : J2 k y14 S = some p) : HRun Tryd.prog base W0 β0 9 none [.inRegion r3 [14, 15, 16, 17], .code c4] ⟨[g0, g1, g2, g3, g4, g5, g6, g7, g8, g9, g10, g11, g12, g13, (.bool y14), g15, g16, g17], []⟩ S (fun v S1 => v = (.bool p.1) ∧ S1 = p.2) := by
  unfold J2 at h
  refine qS 15 rfl (ok_move · (.tmp rfl)) ?_
  rcases ifc h with ⟨hc8, h⟩ | ⟨hc8, h⟩
  · obtain ⟨p9, hp9, h⟩ := bindo h
    refine q_call_g (t := 15) (dst := some 16) rfl rfl rfl hc8 (.func _) (.cons (.str _) (.cons (.str _) Evs.nil)) (HInv.static glob_Match.at_ glob_Match.body (glob_Match.snd  hp9)) ?_
    rintro _ _ ⟨rfl, rfl⟩
    try dsimp only [w0, w1, w2, w3]
    refine qS 17 rfl (ok_pick_tt · (.tmp rfl) hc8 (.tmp rfl)) ?_
    try dsimp only [w0, w1, w2, w3]
    exact J3_snd  h
  · refine q_skip (dst := some 16) (t := 15) rfl rfl rfl (bfalse hc8) ?_
    try dsimp only [w0, w1, w2, w3]
    refine qS 17 rfl (ok_pick_ff · (.tmp rfl) (bfalse hc8) (.bool _)) ?_
    try dsimp only [w0, w1, w2, w3]
    exact J3_snd  h
def J1 (k : Nat) (y10 : Bool) (S : HS) : Option ((Bool) × HS) :=
  (if y10 = true then
  (Option.bind (glob_Short.f k ([42, 63, 42, 42, 63] : List UInt8) S) fun p7 =>
  J2 k (decide (p7.1 = ([63, 63, 42] : List UInt8))) p7.2) else
  J2 k false S)
theorem J1_snd {k : Nat}  {y10 : Bool} {S : HS} {p : (Bool) × HS} {g0 g1 g2 g3 g4 g5 g6 g7 g8 g9 g11 g12 g13 g14 g15 g16 g17 : HV} (h : J1 k y10 S = some p) : HRun Tryd.prog base W0 β0 9 none [.inRegion r3 [10, 11, 12, 13, 14, 15, 16, 17], .code c4] ⟨[g0, g1, g2, g3, g4, g5, g6, g7, g8, g9, (.bool y10), g11, g12, g13, g14, g15, g16, g17], []⟩ S (fun v S1 => v = (.bool p.1) ∧ S1 = p.2) := by
  unfold J1 at h
  refine qS 11 rfl (ok_move · (.tmp rfl)) ?_
  rcases ifc h with ⟨hc6, h⟩ | ⟨hc6, h⟩
  · obtain ⟨p7, hp7, h⟩ := bindo h
    refine q_call_g (t := 11) (dst := some 12) rfl rfl rfl hc6 (.func _) (.cons (.str _) Evs.nil) (HInv.static glob_Short.at_ glob_Short.body (glob_Short.snd  hp7)) ?_
    rintro _ _ ⟨rfl, rfl⟩
    try dsimp only [w0, w1, w2, w3]
    refine qG 11 13 rfl hc6 (ok_sbin · (.tmp rfl) (.str _) rfl) ?_
    refine qS 14 rfl (ok_pick_tt · (.tmp rfl) hc6 (.tmp rfl)) ?_
    try dsimp only [w0, w1, w2, w3]
    exact J2_snd  h
  · refine q_skip (dst := some 12) (t := 11) rfl rfl rfl (bfalse hc6) ?_
    try dsimp only [w0, w1, w2, w3]
    refine q_skip (dst := some 13) (t := 11) rfl rfl rfl (bfalse hc6) ?_
    refine qS 14 rfl (ok_pick_ff · (.tmp rfl) (bfalse hc6) (.bool _)) ?_
    try dsimp only [w0, w1, w2, w3]
    exact J2_snd  h
def J0 (k : Nat) (y6 : Bool) (S : HS) : Option ((Bool) × HS) :=
  (if y6 = true then
  (Option.bind (glob_Complete.f k ([97, 33, 98] : List UInt8) S) fun p5 =>
  J1 k (decide (p5.1 = ([97, 33, 98, 64, 42] : List UInt8))) p5.2) else
  J1 k false S)
theorem J0_snd {k : Nat}  {y6 : Bool} {S : HS} {p : (Bool) × HS} {g0 g1 g2 g3 g4 g5 g7 g8 g9 g10 g11 g12 g13 g14 g15 g16 g17 : HV} (h : J0 k y6 S = some p) : HRun Tryd.prog base W0 β0 9 none [.inRegion r3 [6, 7, 8, 9, 10, 11, 12, 13, 14, 15, 16, 17], .code c4] ⟨[g0, g1, g2, g3, g4, g5, (.bool y6), g7, g8, g9, g10, g11, g12, g13, g14, g15, g16, g17], []⟩ S (fun v S1 => v = (.bool p.1) ∧ S1 = p.2) := by
  unfold J0 at h
  refine qS 7 rfl (ok_move · (.tmp rfl)) ?_
  rcases ifc h with ⟨hc4, h⟩ | ⟨hc4, h⟩
  · obtain ⟨p5, hp5, h⟩ := bindo h
    refine q_call_g (t := 7) (dst := some 8) rfl rfl rfl hc4 (.func _) (.cons (.str _) Evs.nil) (HInv.static glob_Complete.at_ glob_Complete.body (glob_Complete.snd  hp5)) ?_
    rintro _ _ ⟨rfl, rfl⟩
    try dsimp only [w0, w1, w2, w3]
    refine qG 7 9 rfl hc4 (ok_sbin · (.tmp rfl) (.str _) rfl) ?_
    refine qS 10 rfl (ok_pick_tt · (.tmp rfl) hc4 (.tmp rfl)) ?_
    try dsimp only [w0, w1, w2, w3]
    exact J1_snd  h
  · refine q_skip (dst := some 8) (t := 7) rfl rfl rfl (bfalse hc4) ?_
    try dsimp only [w0, w1, w2, w3]
    refine q_skip (dst := some 9) (t := 7) rfl rfl rfl (bfalse hc4) ?_
    refine qS 10 rfl (ok_pick_ff · (.tmp rfl) (bfalse hc4) (.bool _)) ?_
    try dsimp only [w0, w1, w2, w3]
    exact J1_snd  h
def f (k : Nat) (S : HS) : Option ((Bool) × HS) :=
  (Option.bind (glob_Complete.f k ([98, 111, 98] : List UInt8) S) fun p1 =>
  (if p1.1 = ([98, 111, 98, 33, 42, 64, 42] : List UInt8) then
  (Option.bind (glob_Complete.f k ([117, 64, 104] : List UInt8) p1.2) fun p3 =>
  J0 k (decide (p3.1 = ([42, 33, 117, 64, 104] : List UInt8))) p3.2) else
  J0 k false p1.2))
theorem snd {k : Nat} {S : HS}  {p : (Bool) × HS} (h : f k S = some p) : HCall Tryd.prog base W0 β0 9 [] S (fun v S1 => v = (.bool p.1) ∧ S1 = p.2) := by
  unfold f at h
  refine HCall.of_run at_.at_ body ?_
  show HRun Tryd.prog base W0 β0 9 none [.code c0] ⟨[τ, τ, τ, τ, τ, τ, τ, τ, τ, τ, τ, τ, τ, τ, τ, τ, τ, τ], []⟩ S _
  refine q_seq rfl ?_
  refine q_region rfl rfl ?_
  refine qS 0 rfl (ok_assign · (.bool _)) ?_
  refine hr_region_end ?_
  try dsimp only [w0, w1, w2, w3]
  refine q_seq rfl ?_
  refine q_region rfl rfl ?_
  obtain ⟨p1, hp1, h⟩ := bindo h
  refine q_call (dst := some 1) rfl (.func _) (.cons (.str _) Evs.nil) (HInv.static glob_Complete.at_ glob_Complete.body (glob_Complete.snd  hp1)) ?_
  rintro _ _ ⟨rfl, rfl⟩
  refine qS 2 rfl (ok_sbin · (.tmp rfl) (.str _) rfl) ?_
  refine qS 3 rfl (ok_move · (.tmp rfl)) ?_
  rcases ifc h with ⟨hc2, h⟩ | ⟨hc2, h⟩
  · obtain ⟨p3, hp3, h⟩ := bindo h
    refine q_call_g (t := 3) (dst := some 4) rfl rfl rfl (decide_eq_true hc2) (.func _) (.cons (.str _) Evs.nil) (HInv.static glob_Complete.at_ glob_Complete.body (glob_Complete.snd  hp3)) ?_
    rintro _ _ ⟨rfl, rfl⟩
    try dsimp only [w0, w1, w2, w3]
    refine qG 3 5 rfl (decide_eq_true hc2) (ok_sbin · (.tmp rfl) (.str _) rfl) ?_
    refine qS 6 rfl (ok_pick_tt · (.tmp rfl) (decide_eq_true hc2) (.tmp rfl)) ?_
    try dsimp only [w0, w1, w2, w3]
    exact J0_snd  h
  · refine q_skip (dst := some 4) (t := 3) rfl rfl rfl (decide_eq_false hc2) ?_
    try dsimp only [w0, w1, w2, w3]
    refine q_skip (dst := some 5) (t := 3) rfl rfl rfl (decide_eq_false hc2) ?_
    refine qS 6 rfl (ok_pick_ff · (.tmp rfl) (decide_eq_false hc2) (.bool _)) ?_
    try dsimp only [w0, w1, w2, w3]
    exact J0_snd  h
end
end rollcalllaw04_awake
namespace glob_Hits
theorem at_ : FnAt Tryd.prog 10 Tryd.f10 := ⟨Tryd.func10, by kernel_rfl⟩
noncomputable def d0 := (Tryd.f10.body).getD .skip
noncomputable def r1 := kR (kA d0)
noncomputable def r3 := kR (kA (kB d0))
noncomputable def c0 : Code := .seq (.region 0 r1 false) (.seq (.region 1 r3 false) .ret)
theorem body : Tryd.f10.body = some c0 := by kernel_rfl
section
variable {base : Nat} {W0 : World} {β0 : Bt}
def f (k : Nat) (x0 : (List UInt8)) (x1 : (List UInt8)) (x2 : (List UInt8)) (x3 : (List UInt8)) (S : HS) : Option ((Bool) × HS) :=
  (Option.bind (glob_Complete.f k x0 S) fun p1 =>
  (if List.length x1 + List.length ([33] : List UInt8) ≤ 9223372036854775807 then
  (if List.length (x1 ++ ([33] : List UInt8)) + List.length x2 ≤ 9223372036854775807 then
  (if List.length ((x1 ++ ([33] : List UInt8)) ++ x2) + List.length ([64] : List UInt8) ≤ 9223372036854775807 then
  (if List.length (((x1 ++ ([33] : List UInt8)) ++ x2) ++ ([64] : List UInt8)) + List.length x3 ≤ 9223372036854775807 then
  (Option.bind (glob_Match.f k p1.1 ((((x1 ++ ([33] : List UInt8)) ++ x2) ++ ([64] : List UInt8)) ++ x3) p1.2) fun p6 =>
  some (p6.1, p6.2)) else none) else none) else none) else none))
theorem snd {k : Nat} {x0 : (List UInt8)} {x1 : (List UInt8)} {x2 : (List UInt8)} {x3 : (List UInt8)} {S : HS}  {p : (Bool) × HS} (h : f k x0 x1 x2 x3 S = some p) : HCall Tryd.prog base W0 β0 10 [(.str x0), (.str x1), (.str x2), (.str x3)] S (fun v S1 => v = (.bool p.1) ∧ S1 = p.2) := by
  unfold f at h
  refine HCall.of_run at_.at_ body ?_
  show HRun Tryd.prog base W0 β0 10 none [.code c0] ⟨[(.str x0), (.str x1), (.str x2), (.str x3), τ, τ, τ, τ, τ, τ, τ, τ, τ, τ, τ, τ, τ, τ, τ], []⟩ S _
  refine q_seq rfl ?_
  refine q_region rfl rfl ?_
  refine qS 8 rfl (ok_assign · (.bool _)) ?_
  refine hr_region_end ?_
  try dsimp only [w0, w1, w2, w3]
  refine q_seq rfl ?_
  refine q_region rfl rfl ?_
  refine qS 9 rfl (ok_move · (.tmp rfl)) ?_
  obtain ⟨p1, hp1, h⟩ := bindo h
  refine q_call (dst := some 10) rfl (.func _) (.cons (.tmp rfl) Evs.nil) (HInv.static glob_Complete.at_ glob_Complete.body (glob_Complete.snd  hp1)) ?_
  rintro _ _ ⟨rfl, rfl⟩
  refine qS 11 rfl (ok_move · (.tmp rfl)) ?_
  obtain ⟨hg2, h⟩ := gd h
  refine qS 12 rfl (ok_sadd · (.tmp rfl) (.str _) hg2) ?_
  try dsimp only [w0, w1, w2, w3]
  refine qS 13 rfl (ok_move · (.tmp rfl)) ?_
  obtain ⟨hg3, h⟩ := gd h
  refine qS 14 rfl (ok_sadd · (.tmp rfl) (.tmp rfl) hg3) ?_
  obtain ⟨hg4, h⟩ := gd h
  refine qS 15 rfl (ok_sadd · (.tmp rfl) (.str _) hg4) ?_
  refine qS 16 rfl (ok_move · (.tmp rfl)) ?_
  try dsimp only [w0, w1, w2, w3]
  obtain ⟨hg5, h⟩ := gd h
  refine qS 17 rfl (ok_sadd · (.tmp rfl) (.tmp rfl) hg5) ?_
  obtain ⟨p6, hp6, h⟩ := bindo h
  refine q_call (dst := some 18) rfl (.func _) (.cons (.tmp rfl) (.cons (.tmp rfl) Evs.nil)) (HInv.static glob_Match.at_ glob_Match.body (glob_Match.snd  hp6)) ?_
  rintro _ _ ⟨rfl, rfl⟩
  refine qS 8 rfl (ok_assign · (.tmp rfl)) ?_
  refine hr_region_end ?_
  try dsimp only [w0, w1, w2, w3]
  cases h
  exact q_ret rfl at_.at_ rfl (res1 rfl rfl) ⟨rfl, rfl⟩
end
end glob_Hits
namespace rollcallref04_index
theorem at_ : FnAt Tryd.prog 26 Tryd.f26 := ⟨Tryd.func26, by kernel_rfl⟩
noncomputable def d0 := (Tryd.f26.body).getD .skip
noncomputable def r1 := kR (kA d0)
noncomputable def r4 := kR (kA (kA (kB d0)))
noncomputable def d5 := kB (kA (kB d0))
noncomputable def r9 := kR (kA (kA (kA (kA d5))))
noncomputable def d15 := kA (kA (kB (kA (kA d5))))
noncomputable def r16 := kR (kA d15)
noncomputable def r19 := kR (kA (kA (kB d15)))
noncomputable def r22 := kR (kB (kB (kA (kA d5))))
noncomputable def r24 := kR (kA (kB (kB d0)))
noncomputable def c23 : Code := .seq (.region 6 r24 false) .ret
noncomputable def c7 : Code := .seq (.seq (.region 2 r9 false) (.cond (.tmp 12) .skip (.exit 0))) (.seq (.block 1 (.seq (.region 4 r16 false) (.cond (.tmp 19) (.seq (.region 5 r19 false) .ret) .skip))) (.region 3 r22 false))
noncomputable def c0 : Code := .seq (.region 0 r1 false) (.seq (.seq (.region 1 r4 false) (.block 0 (.loop c7))) c23)
theorem body : Tryd.f26.body = some c0 := by kernel_rfl
section
variable {base : Nat} {W0 : World} {β0 : Bt}
def L0 (k : Nat) : Nat → (List UInt8) → Int → Int → Option (Int)
  | 0, _, _, _ => none
  | n + 1, y0, y1, y7 =>
    (if y7 < (List.length y0 : Int) then
    (Option.bind (sat y0 y7) fun p2 =>
    (if (UInt8.toNat p2 : Int) = y1 then
    some y7 else
    (L0 k n) y0 y1 (w64 (y7 + 1)))) else
    some (-1))
theorem L0_snd {k : Nat}  : ∀ {n : Nat} ⦃y0 : (List UInt8)⦄ ⦃y1 : Int⦄ ⦃y7 : Int⦄ ⦃S : HS⦄ ⦃p : Int⦄ ⦃g2 g3 g4 g5 g6 g8 g9 g10 g11 g12 g13 g14 g15 g16 g17 g18 g19 g20 : HV⦄, L0 k n y0 y1 y7 = some p → HRun Tryd.prog base W0 β0 26 none [.inLoop c7, .inBlock 0, .code c23] ⟨[(.str y0), (.int .u8 y1), g2, g3, g4, g5, g6, (.int .i64 y7), g8, g9, g10, g11, g12, g13, g14, g15, g16, g17, g18, g19, g20], []⟩ S (fun v S1 => v = (.int .i64 p) ∧ S1 = S) := by
  intro n
  induction n with
  | zero => intro _ _ _ _ _ _ _ _ _ _ _ _ _ _ _ _ _ _ _ _ _ _ _ h; cases h
  | succ n ih =>
    intro y0 y1 y7 S p g2 g3 g4 g5 g6 g8 g9 g10 g11 g12 g13 g14 g15 g16 g17 g18 g19 g20 h
    simp only [L0] at h
    refine hr_inLoop ?_
    refine q_seq rfl ?_
    refine q_seq rfl ?_
    refine q_region rfl rfl ?_
    refine qS 9 rfl (ok_move · (.tmp rfl)) ?_
    refine qS 10 rfl (ok_move · (.tmp rfl)) ?_
    refine qS 11 rfl (ok_len_str · rfl tu9 (.tmp rfl)) ?_
    refine qS 12 rfl (ok_ibin · (.tmp rfl) (.tmp rfl) rfl) ?_
    refine hr_region_end ?_
    try dsimp only [w0, w1, w2, w3]
    rcases ifc h with ⟨hc1, h⟩ | ⟨hc1, h⟩
    · refine q_cond_t rfl (.tmp rfl) (decide_eq_true hc1) ?_
      refine q_skipc rfl ?_
      refine q_seq rfl ?_
      refine q_block rfl ?_
      refine q_seq rfl ?_
      refine q_region rfl rfl ?_
      refine qS 15 rfl (ok_move · (.tmp rfl)) ?_
      refine qS 16 rfl (ok_move · (.tmp rfl)) ?_
      obtain ⟨p2, hp2, h⟩ := bindo h
      refine qS 17 rfl (ok_index_s · tu9 (.tmp rfl) (.tmp rfl) hp2) ?_
      refine qS 18 rfl (ok_move · (.tmp rfl)) ?_
      try dsimp only [w0, w1, w2, w3]
      refine qS 19 rfl (ok_ibin · (.tmp rfl) (.tmp rfl) rfl) ?_
      refine hr_region_end ?_
      try dsimp only [w0, w1, w2, w3]
      rcases ifc h with ⟨hc3, h⟩ | ⟨hc3, h⟩
      · refine q_cond_t rfl (.tmp rfl) (decide_eq_true hc3) ?_
        refine q_seq rfl ?_
        refine q_region rfl rfl ?_
        refine qS 20 rfl (ok_move · (.tmp rfl)) ?_
        refine qS 6 rfl (ok_assign · (.tmp rfl)) ?_
        refine hr_region_end ?_
        try dsimp only [w0, w1, w2, w3]
        cases h
        exact q_ret rfl at_.at_ rfl (res1 rfl rfl) ⟨rfl, rfl⟩
      · refine q_cond_f rfl (.tmp rfl) (decide_eq_false hc3) ?_
        refine q_skipc rfl ?_
        refine hr_inBlock ?_
        refine q_region rfl rfl ?_
        refine qS 13 rfl (ok_move · (.tmp rfl)) ?_
        refine qS 14 rfl (ok_ibin · (.tmp rfl) (.int _ _) rfl) ?_
        refine qS 7 rfl (ok_assign · (.tmp rfl)) ?_
        refine hr_region_end ?_
        try dsimp only [w0, w1, w2, w3]
        try dsimp only [w0, w1, w2, w3]
        exact ih h
    · refine q_cond_f rfl (.tmp rfl) (decide_eq_false hc1) ?_
      refine q_exit rfl rfl ?_
      refine q_seq rfl ?_
      refine q_region rfl rfl ?_
      refine qS 6 rfl (ok_assign · (.int _ _)) ?_
      refine hr_region_end ?_
      try dsimp only [w0, w1, w2, w3]
      cases h
      exact q_ret rfl at_.at_ rfl (res1 rfl rfl) ⟨rfl, rfl⟩
def f (k : Nat) (x0 : (List UInt8)) (x1 : Int) (x2 : Int) : Option (Int) :=
  L0 k k x0 x1 x2
theorem snd {k : Nat} {x0 : (List UInt8)} {x1 : Int} {x2 : Int} {S : HS}  {p : Int} (h : f k x0 x1 x2 = some p) : HCall Tryd.prog base W0 β0 26 [(.str x0), (.int .u8 x1), (.int .i64 x2)] S (fun v S1 => v = (.int .i64 p) ∧ S1 = S) := by
  unfold f at h
  refine HCall.of_run at_.at_ body ?_
  show HRun Tryd.prog base W0 β0 26 none [.code c0] ⟨[(.str x0), (.int .u8 x1), (.int .i64 x2), τ, τ, τ, τ, τ, τ, τ, τ, τ, τ, τ, τ, τ, τ, τ, τ, τ, τ], []⟩ S _
  refine q_seq rfl ?_
  refine q_region rfl rfl ?_
  refine qS 6 rfl (ok_assign · (.int _ _)) ?_
  refine hr_region_end ?_
  try dsimp only [w0, w1, w2, w3]
  refine q_seq rfl ?_
  refine q_seq rfl ?_
  refine q_region rfl rfl ?_
  refine qS 8 rfl (ok_move · (.tmp rfl)) ?_
  refine qS 7 rfl (ok_assign · (.tmp rfl)) ?_
  refine hr_region_end ?_
  try dsimp only [w0, w1, w2, w3]
  refine q_block rfl ?_
  refine q_loop rfl ?_
  try dsimp only [w0, w1, w2, w3]
  exact L0_snd  h
end
end rollcallref04_index
namespace rollcallref04_star
theorem at_ : FnAt Tryd.prog 27 Tryd.f27 := ⟨Tryd.func27, by kernel_rfl⟩
noncomputable def d0 := (Tryd.f27.body).getD .skip
noncomputable def r1 := kR (kA d0)
noncomputable def r4 := kR (kA (kA (kB d0)))
noncomputable def r7 := kR (kA (kA (kB (kA (kB d0)))))
noncomputable def r11 := kR (kA (kB (kB d0)))
noncomputable def c0 : Code := .seq (.region 0 r1 false) (.seq (.seq (.region 1 r4 false) (.cond (.tmp 4) (.seq (.region 2 r7 false) .ret) .skip)) (.seq (.region 3 r11 false) .ret))
theorem body : Tryd.f27.body = some c0 := by kernel_rfl
section
variable {base : Nat} {W0 : World} {β0 : Bt}
def f (x0 : (List UInt8)) : Option ((List UInt8)) :=
  (if x0 = ([] : List UInt8) then
  some ([42] : List UInt8) else
  some x0)
theorem snd {x0 : (List UInt8)} {S : HS}  {p : (List UInt8)} (h : f x0 = some p) : HCall Tryd.prog base W0 β0 27 [(.str x0)] S (fun v S1 => v = (.str p) ∧ S1 = S) := by
  unfold f at h
  refine HCall.of_run at_.at_ body ?_
  show HRun Tryd.prog base W0 β0 27 none [.code c0] ⟨[(.str x0), τ, τ, τ, τ, τ], []⟩ S _
  refine q_seq rfl ?_
  refine q_region rfl rfl ?_
  refine qS 2 rfl (ok_assign · (.str _)) ?_
  refine hr_region_end ?_
  try dsimp only [w0, w1, w2, w3]
  refine q_seq rfl ?_
  refine q_seq rfl ?_
  refine q_region rfl rfl ?_
  refine qS 3 rfl (ok_move · (.tmp rfl)) ?_
  refine qS 4 rfl (ok_sbin · (.tmp rfl) (.str _) rfl) ?_
  refine hr_region_end ?_
  try dsimp only [w0, w1, w2, w3]
  rcases ifc h with ⟨hc1, h⟩ | ⟨hc1, h⟩
  · refine q_cond_t rfl (.tmp rfl) (decide_eq_true hc1) ?_
    refine q_seq rfl ?_
    refine q_region rfl rfl ?_
    refine qS 2 rfl (ok_assign · (.str _)) ?_
    refine hr_region_end ?_
    try dsimp only [w0, w1, w2, w3]
    cases h
    exact q_ret rfl at_.at_ rfl (res1 rfl rfl) ⟨rfl, rfl⟩
  · refine q_cond_f rfl (.tmp rfl) (decide_eq_false hc1) ?_
    refine q_skipc rfl ?_
    refine q_seq rfl ?_
    refine q_region rfl rfl ?_
    refine qS 5 rfl (ok_move · (.tmp rfl)) ?_
    refine qS 2 rfl (ok_assign · (.tmp rfl)) ?_
    refine hr_region_end ?_
    try dsimp only [w0, w1, w2, w3]
    cases h
    exact q_ret rfl at_.at_ rfl (res1 rfl rfl) ⟨rfl, rfl⟩
end
end rollcallref04_star
namespace rollcallref04_Complete
theorem at_ : FnAt Tryd.prog 12 Tryd.f12 := ⟨Tryd.func12, by kernel_rfl⟩
noncomputable def d0 := (Tryd.f12.body).getD .skip
noncomputable def r1 := kR (kA d0)
noncomputable def r3 := kR (kA (kB d0))
noncomputable def r5 := kR (kA (kB (kB d0)))
noncomputable def d6 := kB (kB (kB d0))
noncomputable def r7 := kR (kA d6)
noncomputable def r9 := kR (kA (kB d6))
noncomputable def r11 := kR (kA (kB (kB d6)))
noncomputable def d12 := kB (kB (kB d6))
noncomputable def r13 := kR (kA d12)
noncomputable def r16 := kR (kA (kA (kB d12)))
noncomputable def d17 := kB (kA (kB d12))
noncomputable def r19 := kR (kA (kA d17))
noncomputable def r20 := kR (kB (kA d17))
noncomputable def r22 := kR (kA (kB d17))
noncomputable def r25 := kR (kA (kA (kB (kB d17))))
noncomputable def r26 := kR (kB (kA (kB (kB d17))))
noncomputable def d29 := kA (kB (kB d12))
noncomputable def r30 := kR (kA d29)
noncomputable def r33 := kR (kA (kA (kB d29)))
noncomputable def d34 := kB (kA (kB d29))
noncomputable def r35 := kR (kA d34)
noncomputable def r37 := kR (kA (kB d34))
noncomputable def r39 := kR (kA (kB (kB d34)))
noncomputable def r40 := kR (kB (kB (kB d34)))
noncomputable def r43 := kR (kA (kB (kB (kB d12))))
noncomputable def c42 : Code := .seq (.region 19 r43 false) .ret
noncomputable def c28 : Code := .seq (.seq (.region 13 r30 false) (.cond (.tmp 33) (.seq (.region 14 r33 false) (.seq (.region 15 r35 false) (.cond (.tmp 38) (.region 16 r37 false) (.seq (.region 17 r39 false) (.region 18 r40 false))))) .skip)) c42
noncomputable def c17 : Code := .cond (.tmp 24) (.seq (.region 8 r19 false) (.region 9 r20 false)) (.seq (.region 10 r22 false) (.cond (.tmp 31) (.seq (.region 11 r25 false) (.region 12 r26 false)) .skip))
noncomputable def c0 : Code := .seq (.region 0 r1 false) (.seq (.region 1 r3 false) (.seq (.region 2 r5 false) (.seq (.region 3 r7 false) (.seq (.region 4 r9 false) (.seq (.region 5 r11 false) (.seq (.region 6 r13 false) (.seq (.seq (.region 7 r16 false) c17) c28)))))))
theorem body : Tryd.f12.body = some c0 := by kernel_rfl
section
variable {base : Nat} {W0 : World} {β0 : Bt}
def J3 (k : Nat) (y5 : (List UInt8)) (y6 : (List UInt8)) (y7 : (List UInt8)) : Option ((List UInt8)) :=
  (Option.bind (rollcallref04_star.f y5) fun p12 =>
  (if List.length p12 + List.length ([33] : List UInt8) ≤ 9223372036854775807 then
  (Option.bind (rollcallref04_star.f y6) fun p14 =>
  (if List.length (p12 ++ ([33] : List UInt8)) + List.length p14 ≤ 9223372036854775807 then
  (if List.length ((p12 ++ ([33] : List UInt8)) ++ p14) + List.length ([64] : List UInt8) ≤ 9223372036854775807 then
  (Option.bind (rollcallref04_star.f y7) fun p17 =>
  (if List.length (((p12 ++ ([33] : List UInt8)) ++ p14) ++ ([64] : List UInt8)) + List.length p17 ≤ 9223372036854775807 then
  some ((((p12 ++ ([33] : List UInt8)) ++ p14) ++ ([64] : List UInt8)) ++ p17) else none)) else none) else none)) else none))
theorem J3_snd {k : Nat}  {y5 : (List UInt8)} {y6 : (List UInt8)} {y7 : (List UInt8)} {S : HS} {p : (List UInt8)} {g0 g1 g2 g3 g4 g8 g9 g10 g11 g12 g13 g14 g15 g16 g17 g18 g19 g20 g21 g22 g23 g24 g25 g26 g27 g28 g29 g30 g31 g32 g33 g34 g35 g36 g37 g38 g39 g40 g41 g42 g43 g44 g45 g46 g47 g48 g49 g50 g51 g52 g53 g54 g55 g56 g57 g58 g59 : HV} (h : J3 k y5 y6 y7 = some p) : HRun Tryd.prog base W0 β0 12 none [.code c42] ⟨[g0, g1, g2, g3, g4, (.str y5), (.str y6), (.str y7), g8, g9, g10, g11, g12, g13, g14, g15, g16, g17, g18, g19, g20, g21, g22, g23, g24, g25, g26, g27, g28, g29, g30, g31, g32, g33, g34, g35, g36, g37, g38, g39, g40, g41, g42, g43, g44, g45, g46, g47, g48, g49, g50, g51, g52, g53, g54, g55, g56, g57, g58, g59], []⟩ S (fun v S1 => v = (.str p) ∧ S1 = S) := by
  unfold J3 at h
  refine q_seq rfl ?_
  refine q_region rfl rfl ?_
  refine qS 50 rfl (ok_move · (.tmp rfl)) ?_
  obtain ⟨p12, hp12, h⟩ := bindo h
  refine q_call (dst := some 51) rfl (.func _) (.cons (.tmp rfl) Evs.nil) (HInv.static rollcallref04_star.at_ rollcallref04_star.body (rollcallref04_star.snd  hp12)) ?_
  rintro _ _ ⟨rfl, rfl⟩
  obtain ⟨hg13, h⟩ := gd h
  refine qS 52 rfl (ok_sadd · (.tmp rfl) (.str _) hg13) ?_
  refine qS 53 rfl (ok_move · (.tmp rfl)) ?_
  try dsimp only [w0, w1, w2, w3]
  obtain ⟨p14, hp14, h⟩ := bindo h
  refine q_call (dst := some 54) rfl (.func _) (.cons (.tmp rfl) Evs.nil) (HInv.static rollcallref04_star.at_ rollcallref04_star.body (rollcallref04_star.snd  hp14)) ?_
  rintro _ _ ⟨rfl, rfl⟩
  obtain ⟨hg15, h⟩ := gd h
  refine qS 55 rfl (ok_sadd · (.tmp rfl) (.tmp rfl) hg15) ?_
  obtain ⟨hg16, h⟩ := gd h
  refine qS 56 rfl (ok_sadd · (.tmp rfl) (.str _) hg16) ?_
  refine qS 57 rfl (ok_move · (.tmp rfl)) ?_
  try dsimp only [w0, w1, w2, w3]
  obtain ⟨p17, hp17, h⟩ := bindo h
  refine q_call (dst := some 58) rfl (.func _) (.cons (.tmp rfl) Evs.nil) (HInv.static rollcallref04_star.at_ rollcallref04_star.body (rollcallref04_star.snd  hp17)) ?_
  rintro _ _ ⟨rfl, rfl⟩
  obtain ⟨hg18, h⟩ := gd h
  refine qS 59 rfl (ok_sadd · (.tmp rfl) (.tmp rfl) hg18) ?_
  refine qS 2 rfl (ok_assign · (.tmp rfl)) ?_
  refine hr_region_end ?_
  try dsimp only [w0, w1, w2, w3]
  cases h
  exact q_ret rfl at_.at_ rfl (res1 rfl rfl) ⟨rfl, rfl⟩
def J2 (k : Nat) (y0 : (List UInt8)) (y5 : (List UInt8)) (y6 : (List UInt8)) (y7 : (List UInt8)) (y8 : Int) : Option ((List UInt8)) :=
  (if y8 ≥ 0 then
  (Option.bind (rollcallref04_index.f k y0 64 y8) fun p9 =>
  (if p9 < 0 then
  (if 0 ≤ (y8 : Int) ∧ (y8 : Int) ≤ (List.length y0 : Int) ∧ ((List.length y0 : Int) : Int) ≤ (List.length y0 : Int) then
  J3 k y5 (ssub y0 y8 (List.length y0 : Int)) y7 else none) else
  (if 0 ≤ (y8 : Int) ∧ (y8 : Int) ≤ p9 ∧ (p9 : Int) ≤ (List.length y0 : Int) then
  (if 0 ≤ ((w64 (p9 + 1)) : Int) ∧ ((w64 (p9 + 1)) : Int) ≤ (List.length y0 : Int) ∧ ((List.length y0 : Int) : Int) ≤ (List.length y0 : Int) then
  J3 k y5 (ssub y0 y8 p9) (ssub y0 (w64 (p9 + 1)) (List.length y0 : Int)) else none) else none))) else
  J3 k y5 y6 y7)
theorem J2_snd {k : Nat}  {y0 : (List UInt8)} {y5 : (List UInt8)} {y6 : (List UInt8)} {y7 : (List UInt8)} {y8 : Int} {S : HS} {p : (List UInt8)} {g1 g2 g3 g4 g9 g10 g11 g12 g13 g14 g15 g16 g17 g18 g19 g20 g21 g22 g23 g24 g25 g26 g27 g28 g29 g30 g31 g32 g33 g34 g35 g36 g37 g38 g39 g40 g41 g42 g43 g44 g45 g46 g47 g48 g49 g50 g51 g52 g53 g54 g55 g56 g57 g58 g59 : HV} (h : J2 k y0 y5 y6 y7 y8 = some p) : HRun Tryd.prog base W0 β0 12 none [.code c28] ⟨[(.str y0), g1, g2, g3, g4, (.str y5), (.str y6), (.str y7), (.int .i64 y8), g9, g10, g11, g12, g13, g14, g15, g16, g17, g18, g19, g20, g21, g22, g23, g24, g25, g26, g27, g28, g29, g30, g31, g32, g33, g34, g35, g36, g37, g38, g39, g40, g41, g42, g43, g44, g45, g46, g47, g48, g49, g50, g51, g52, g53, g54, g55, g56, g57, g58, g59], []⟩ S (fun v S1 => v = (.str p) ∧ S1 = S) := by
  unfold J2 at h
  refine q_seq rfl ?_
  refine q_seq rfl ?_
  refine q_region rfl rfl ?_
  refine qS 32 rfl (ok_move · (.tmp rfl)) ?_
  refine qS 33 rfl (ok_ibin · (.tmp rfl) (.int _ _) rfl) ?_
  refine hr_region_end ?_
  try dsimp only [w0, w1, w2, w3]
  rcases ifc h with ⟨hc8, h⟩ | ⟨hc8, h⟩
  · refine q_cond_t rfl (.tmp rfl) (decide_eq_true hc8) ?_
    refine q_seq rfl ?_
    refine q_region rfl rfl ?_
    refine qS 34 rfl (ok_move · (.tmp rfl)) ?_
    refine qS 35 rfl (ok_move · (.tmp rfl)) ?_
    obtain ⟨p9, hp9, h⟩ := bindo h
    refine q_call (dst := some 36) rfl (.func _) (.cons (.tmp rfl) (.cons (.int _ _) (.cons (.tmp rfl) Evs.nil))) (HInv.static rollcallref04_index.at_ rollcallref04_index.body (rollcallref04_index.snd  hp9)) ?_
    rintro _ _ ⟨rfl, rfl⟩
    refine qS 4 rfl (ok_assign · (.tmp rfl)) ?_
    refine hr_region_end ?_
    try dsimp only [w0, w1, w2, w3]
    refine q_seq rfl ?_
    refine q_region rfl rfl ?_
    refine qS 37 rfl (ok_move · (.tmp rfl)) ?_
    refine qS 38 rfl (ok_ibin · (.tmp rfl) (.int _ _) rfl) ?_
    refine hr_region_end ?_
    try dsimp only [w0, w1, w2, w3]
    rcases ifc h with ⟨hc10, h⟩ | ⟨hc10, h⟩
    · refine q_cond_t rfl (.tmp rfl) (decide_eq_true hc10) ?_
      refine q_region rfl rfl ?_
      refine qS 39 rfl (ok_move · (.tmp rfl)) ?_
      refine qS 40 rfl (ok_move · (.tmp rfl)) ?_
      obtain ⟨hg11, h⟩ := gd h
      refine qS 41 rfl (ok_slice_str (kl := .i64) (kh := .i64) (l := y8) (h := (List.length y0 : Int)) · tu9 (.tmp rfl) (.inr ⟨_, rfl, (.tmp rfl)⟩) (.inl ⟨rfl, rfl⟩) hg11.1 hg11.2.1 hg11.2.2) ?_
      refine qS 6 rfl (ok_assign · (.tmp rfl)) ?_
      refine hr_region_end ?_
      try dsimp only [w0, w1, w2, w3]
      try dsimp only [w0, w1, w2, w3]
      exact J3_snd  h
    · refine q_cond_f rfl (.tmp rfl) (decide_eq_false hc10) ?_
      refine q_seq rfl ?_
      refine q_region rfl rfl ?_
      refine qS 42 rfl (ok_move · (.tmp rfl)) ?_
      refine qS 43 rfl (ok_move · (.tmp rfl)) ?_
      refine qS 44 rfl (ok_move · (.tmp rfl)) ?_
      obtain ⟨hg19, h⟩ := gd h
      refine qS 45 rfl (ok_slice_str (kl := .i64) (kh := .i64) (l := y8) (h := p9) · tu9 (.tmp rfl) (.inr ⟨_, rfl, (.tmp rfl)⟩) (.inr ⟨_, rfl, (.tmp rfl)⟩) hg19.1 hg19.2.1 hg19.2.2) ?_
      try dsimp only [w0, w1, w2, w3]
      refine qS 6 rfl (ok_assign · (.tmp rfl)) ?_
      refine hr_region_end ?_
      try dsimp only [w0, w1, w2, w3]
      refine q_region rfl rfl ?_
      refine qS 46 rfl (ok_move · (.tmp rfl)) ?_
      refine qS 47 rfl (ok_move · (.tmp rfl)) ?_
      refine qS 48 rfl (ok_ibin · (.tmp rfl) (.int _ _) rfl) ?_
      obtain ⟨hg20, h⟩ := gd h
      refine qS 49 rfl (ok_slice_str (kl := .i64) (kh := .i64) (l := (w64 (p9 + 1))) (h := (List.length y0 : Int)) · tu9 (.tmp rfl) (.inr ⟨_, rfl, (.tmp rfl)⟩) (.inl ⟨rfl, rfl⟩) hg20.1 hg20.2.1 hg20.2.2) ?_
      try dsimp only [w0, w1, w2, w3]
      refine qS 7 rfl (ok_assign · (.tmp rfl)) ?_
      refine hr_region_end ?_
      try dsimp only [w0, w1, w2, w3]
      try dsimp only [w0, w1, w2, w3]
      exact J3_snd  h
  · refine q_cond_f rfl (.tmp rfl) (decide_eq_false hc8) ?_
    refine q_skipc rfl ?_
    try dsimp only [w0, w1, w2, w3]
    exact J3_snd  h
def J1 (k : Nat) (y0 : (List UInt8)) (y3 : Int) (y4 : Int) (y5 : (List UInt8)) (y6 : (List UInt8)) (y7 : (List UInt8)) (y8 : Int) (y24 : Bool) : Option ((List UInt8)) :=
  (if y24 = true then
  (if 0 ≤ (0 : Int) ∧ (0 : Int) ≤ y3 ∧ (y3 : Int) ≤ (List.length y0 : Int) then
  J2 k y0 (ssub y0 0 y3) y6 y7 (w64 (y3 + 1)) else none) else
  (if y4 ≥ 0 then
  J2 k y0 ([] : List UInt8) y6 y7 0 else
  J2 k y0 y5 y6 y7 y8))
theorem J1_snd {k : Nat}  {y0 : (List UInt8)} {y3 : Int} {y4 : Int} {y5 : (List UInt8)} {y6 : (List UInt8)} {y7 : (List UInt8)} {y8 : Int} {y24 : Bool} {S : HS} {p : (List UInt8)} {g1 g2 g9 g10 g11 g12 g13 g14 g15 g16 g17 g18 g19 g20 g21 g22 g23 g25 g26 g27 g28 g29 g30 g31 g32 g33 g34 g35 g36 g37 g38 g39 g40 g41 g42 g43 g44 g45 g46 g47 g48 g49 g50 g51 g52 g53 g54 g55 g56 g57 g58 g59 : HV} (h : J1 k y0 y3 y4 y5 y6 y7 y8 y24 = some p) : HRun Tryd.prog base W0 β0 12 none [.code c17, .code c28] ⟨[(.str y0), g1, g2, (.int .i64 y3), (.int .i64 y4), (.str y5), (.str y6), (.str y7), (.int .i64 y8), g9, g10, g11, g12, g13, g14, g15, g16, g17, g18, g19, g20, g21, g22, g23, (.bool y24), g25, g26, g27, g28, g29, g30, g31, g32, g33, g34, g35, g36, g37, g38, g39, g40, g41, g42, g43, g44, g45, g46, g47, g48, g49, g50, g51, g52, g53, g54, g55, g56, g57, g58, g59], []⟩ S (fun v S1 => v = (.str p) ∧ S1 = S) := by
  unfold J1 at h
  rcases ifc h with ⟨hc6, h⟩ | ⟨hc6, h⟩
  · refine q_cond_t rfl (.tmp rfl) hc6 ?_
    refine q_seq rfl ?_
    refine q_region rfl rfl ?_
    refine qS 25 rfl (ok_move · (.tmp rfl)) ?_
    refine qS 26 rfl (ok_move · (.tmp rfl)) ?_
    obtain ⟨hg7, h⟩ := gd h
    refine qS 27 rfl (ok_slice_str (kl := .i64) (kh := .i64) (l := 0) (h := y3) · tu9 (.tmp rfl) (.inl ⟨rfl, rfl⟩) (.inr ⟨_, rfl, (.tmp rfl)⟩) hg7.1 hg7.2.1 hg7.2.2) ?_
    refine qS 5 rfl (ok_assign · (.tmp rfl)) ?_
    refine hr_region_end ?_
    try dsimp only [w0, w1, w2, w3]
    refine q_region rfl rfl ?_
    refine qS 28 rfl (ok_move · (.tmp rfl)) ?_
    refine qS 29 rfl (ok_ibin · (.tmp rfl) (.int _ _) rfl) ?_
    refine qS 8 rfl (ok_assign · (.tmp rfl)) ?_
    refine hr_region_end ?_
    try dsimp only [w0, w1, w2, w3]
    try dsimp only [w0, w1, w2, w3]
    exact J2_snd  h
  · refine q_cond_f rfl (.tmp rfl) (bfalse hc6) ?_
    refine q_seq rfl ?_
    refine q_region rfl rfl ?_
    refine qS 30 rfl (ok_move · (.tmp rfl)) ?_
    refine qS 31 rfl (ok_ibin · (.tmp rfl) (.int _ _) rfl) ?_
    refine hr_region_end ?_
    try dsimp only [w0, w1, w2, w3]
    rcases ifc h with ⟨hc21, h⟩ | ⟨hc21, h⟩
    · refine q_cond_t rfl (.tmp rfl) (decide_eq_true hc21) ?_
      refine q_seq rfl ?_
      refine q_region rfl rfl ?_
      refine qS 5 rfl (ok_assign · (.str _)) ?_
      refine hr_region_end ?_
      try dsimp only [w0, w1, w2, w3]
      refine q_region rfl rfl ?_
      refine qS 8 rfl (ok_assign · (.int _ _)) ?_
      refine hr_region_end ?_
      try dsimp only [w0, w1, w2, w3]
      try dsimp only [w0, w1, w2, w3]
      exact J2_snd  h
    · refine q_cond_f rfl (.tmp rfl) (decide_eq_false hc21) ?_
      refine q_skipc rfl ?_
      try dsimp only [w0, w1, w2, w3]
      exact J2_snd  h
def J0 (k : Nat) (y0 : (List UInt8)) (y3 : Int) (y4 : Int) (y5 : (List UInt8)) (y6 : (List UInt8)) (y7 : (List UInt8)) (y8 : Int) (y16 : Bool) (y23 : Bool) : Option ((List UInt8)) :=
  (if y16 = true then
  J1 k y0 y3 y4 y5 y6 y7 y8 y23 else
  J1 k y0 y3 y4 y5 y6 y7 y8 false)
theorem J0_snd {k : Nat}  {y0 : (List UInt8)} {y3 : Int} {y4 : Int} {y5 : (List UInt8)} {y6 : (List UInt8)} {y7 : (List UInt8)} {y8 : Int} {y16 : Bool} {y23 : Bool} {S : HS} {p : (List UInt8)} {g1 g2 g9 g10 g11 g12 g13 g14 g15 g17 g18 g19 g20 g21 g22 g24 g25 g26 g27 g28 g29 g30 g31 g32 g33 g34 g35 g36 g37 g38 g39 g40 g41 g42 g43 g44 g45 g46 g47 g48 g49 g50 g51 g52 g53 g54 g55 g56 g57 g58 g59 : HV} (h : J0 k y0 y3 y4 y5 y6 y7 y8 y16 y23 = some p) : HRun Tryd.prog base W0 β0 12 none [.inRegion r16 [10], .code c17, .code c28] ⟨[(.str y0), g1, g2, (.int .i64 y3), (.int .i64 y4), (.str y5), (.str y6), (.str y7), (.int .i64 y8), g9, g10, g11, g12, g13, g14, g15, (.bool y16), g17, g18, g19, g20, g21, g22, (.bool y23), g24, g25, g26, g27, g28, g29, g30, g31, g32, g33, g34, g35, g36, g37, g38, g39, g40, g41, g42, g43, g44, g45, g46, g47, g48, g49, g50, g51, g52, g53, g54, g55, g56, g57, g58, g59], []⟩ S (fun v S1 => v = (.str p) ∧ S1 = S) := by
  unfold J0 at h
  rcases ifc h with ⟨hc5, h⟩ | ⟨hc5, h⟩
  · refine qS 24 rfl (ok_pick_tt · (.tmp rfl) hc5 (.tmp rfl)) ?_
    refine hr_region_end ?_
    try dsimp only [w0, w1, w2, w3]
    try dsimp only [w0, w1, w2, w3]
    exact J1_snd  h
  · refine qS 24 rfl (ok_pick_ff · (.tmp rfl) (bfalse hc5) (.bool _)) ?_
    refine hr_region_end ?_
    try dsimp only [w0, w1, w2, w3]
    try dsimp only [w0, w1, w2, w3]
    exact J1_snd  h
def f (k : Nat) (x0 : (List UInt8)) : Option ((List UInt8)) :=
  (Option.bind (rollcallref04_index.f k x0 33 0) fun p1 =>
  (Option.bind (rollcallref04_index.f k x0 64 0) fun p2 =>
  (if p1 ≥ 0 then
  (if p2 < 0 then
  J0 k x0 p1 p2 x0 ([] : List UInt8) ([] : List UInt8) (-1) (decide (p1 ≥ 0)) true else
  J0 k x0 p1 p2 x0 ([] : List UInt8) ([] : List UInt8) (-1) (decide (p1 ≥ 0)) (decide (p1 < p2))) else
  J1 k x0 p1 p2 x0 ([] : List UInt8) ([] : List UInt8) (-1) false)))
theorem snd {k : Nat} {x0 : (List UInt8)} {S : HS}  {p : (List UInt8)} (h : f k x0 = some p) : HCall Tryd.prog base W0 β0 12 [(.str x0)] S (fun v S1 => v = (.str p) ∧ S1 = S) := by
  unfold f at h
  refine HCall.of_run at_.at_ body ?_
  show HRun Tryd.prog base W0 β0 12 none [.code c0] ⟨[(.str x0), τ, τ, τ, τ, τ, τ, τ, τ, τ, τ, τ, τ, τ, τ, τ, τ, τ, τ, τ, τ, τ, τ, τ, τ, τ, τ, τ, τ, τ, τ, τ, τ, τ, τ, τ, τ, τ, τ, τ, τ, τ, τ, τ, τ, τ, τ, τ, τ, τ, τ, τ, τ, τ, τ, τ, τ, τ, τ, τ], []⟩ S _
  refine q_seq rfl ?_
  refine q_region rfl rfl ?_
  refine qS 2 rfl (ok_assign · (.str _)) ?_
  refine hr_region_end ?_
  try dsimp only [w0, w1, w2, w3]
  refine q_seq rfl ?_
  refine q_region rfl rfl ?_
  refine qS 9 rfl (ok_move · (.tmp rfl)) ?_
  obtain ⟨p1, hp1, h⟩ := bindo h
  refine q_call (dst := some 10) rfl (.func _) (.cons (.tmp rfl) (.cons (.int _ _) (.cons (.int _ _) Evs.nil))) (HInv.static rollcallref04_index.at_ rollcallref04_index.body (rollcallref04_index.snd  hp1)) ?_
  rintro _ _ ⟨rfl, rfl⟩
  refine qS 3 rfl (ok_assign · (.tmp rfl)) ?_
  refine hr_region_end ?_
  try dsimp only [w0, w1, w2, w3]
  refine q_seq rfl ?_
  refine q_region rfl rfl ?_
  refine qS 11 rfl (ok_move · (.tmp rfl)) ?_
  obtain ⟨p2, hp2, h⟩ := bindo h
  refine q_call (dst := some 12) rfl (.func _) (.cons (.tmp rfl) (.cons (.int _ _) (.cons (.int _ _) Evs.nil))) (HInv.static rollcallref04_index.at_ rollcallref04_index.body (rollcallref04_index.snd  hp2)) ?_
  rintro _ _ ⟨rfl, rfl⟩
  refine qS 4 rfl (ok_assign · (.tmp rfl)) ?_
  refine hr_region_end ?_
  try dsimp only [w0, w1, w2, w3]
  refine q_seq rfl ?_
  refine q_region rfl rfl ?_
  refine qS 13 rfl (ok_move · (.tmp rfl)) ?_
  refine qS 5 rfl (ok_assign · (.tmp rfl)) ?_
  refine hr_region_end ?_
  try dsimp only [w0, w1, w2, w3]
  refine q_seq rfl ?_
  refine q_region rfl rfl ?_
  refine qS 6 rfl (ok_assign · (.str _)) ?_
  refine hr_region_end ?_
  try dsimp only [w0, w1, w2, w3]
  refine q_seq rfl ?_
  refine q_region rfl rfl ?_
  refine qS 7 rfl (ok_assign · (.str _)) ?_
  refine hr_region_end ?_
  try dsimp only [w0, w1, w2, w3]
  refine q_seq rfl ?_
  refine q_region rfl rfl ?_
  refine qS 8 rfl (ok_assign · (.int _ _)) ?_
  refine hr_region_end ?_
  try dsimp only [w0, w1, w2, w3]
  refine q_seq rfl ?_
  refine q_seq rfl ?_
  refine q_region rfl rfl ?_
  refine qS 14 rfl (ok_move · (.tmp rfl)) ?_
  refine qS 15 rfl (ok_ibin · (.tmp rfl) (.int _ _) rfl) ?_
  refine qS 16 rfl (ok_move · (.tmp rfl)) ?_
  rcases ifc h with ⟨hc3, h⟩ | ⟨hc3, h⟩
  · refine qG 16 17 rfl (decide_eq_true hc3) (ok_move · (.tmp rfl)) ?_
    try dsimp only [w0, w1, w2, w3]
    refine qG 16 18 rfl (decide_eq_true hc3) (ok_ibin · (.tmp rfl) (.int _ _) rfl) ?_
    refine qG 16 19 rfl (decide_eq_true hc3) (ok_move · (.tmp rfl)) ?_
    rcases ifc h with ⟨hc4, h⟩ | ⟨hc4, h⟩
    · refine q_skip (dst := some 20) (t := 19) rfl rfl rfl (decide_eq_true hc4) ?_
      refine q_skip (dst := some 21) (t := 19) rfl rfl rfl (decide_eq_true hc4) ?_
      try dsimp only [w0, w1, w2, w3]
      refine q_skip (dst := some 22) (t := 19) rfl rfl rfl (decide_eq_true hc4) ?_
      refine qG 16 23 rfl (decide_eq_true hc3) (ok_pick_tt · (.tmp rfl) (decide_eq_true hc4) (.bool _)) ?_
      try dsimp only [w0, w1, w2, w3]
      exact J0_snd  h
    · refine qG 19 20 rfl (decide_eq_false hc4) (ok_move · (.tmp rfl)) ?_
      refine qG 19 21 rfl (decide_eq_false hc4) (ok_move · (.tmp rfl)) ?_
      try dsimp only [w0, w1, w2, w3]
      refine qG 19 22 rfl (decide_eq_false hc4) (ok_ibin · (.tmp rfl) (.tmp rfl) rfl) ?_
      refine qG 16 23 rfl (decide_eq_true hc3) (ok_pick_ff · (.tmp rfl) (decide_eq_false hc4) (.tmp rfl)) ?_
      try dsimp only [w0, w1, w2, w3]
      exact J0_snd  h
  · refine q_skip (dst := some 17) (t := 16) rfl rfl rfl (decide_eq_false hc3) ?_
    try dsimp only [w0, w1, w2, w3]
    refine q_skip (dst := some 18) (t := 16) rfl rfl rfl (decide_eq_false hc3) ?_
    refine q_skip (dst := some 19) (t := 16) rfl rfl rfl (decide_eq_false hc3) ?_
    refine q_skip_u (dst := some 20) (t := 19) rfl rfl rfl ?_
    refine q_skip_u (dst := some 21) (t := 19) rfl rfl rfl ?_
    try dsimp only [w0, w1, w2, w3]
    refine q_skip_u (dst := some 22) (t := 19) rfl rfl rfl ?_
    refine q_skip (dst := some 23) (t := 16) rfl rfl rfl (decide_eq_false hc3) ?_
    refine qS 24 rfl (ok_pick_ff · (.tmp rfl) (decide_eq_false hc3) (.bool _)) ?_
    refine hr_region_end ?_
    try dsimp only [w0, w1, w2, w3]
    try dsimp only [w0, w1, w2, w3]
    exact J1_snd  h
end
end rollcallref04_Complete
namespace rollcallref01_Byte
theorem at_ : FnAt Tryd.prog 25 Tryd.f25 := ⟨Tryd.func25, by kernel_rfl⟩
noncomputable def d0 := (Tryd.f25.body).getD .skip
noncomputable def r1 := kR (kA d0)
noncomputable def r3 := kR (kA (kB d0))
noncomputable def r5 := kR (kA (kB (kB d0)))
noncomputable def d6 := kB (kB (kB d0))
noncomputable def r8 := kR (kA (kA d6))
noncomputable def d10 := kA (kB (kA d6))
noncomputable def r13 := kR (kA (kA (kA d10)))
noncomputable def r20 := kR (kA (kA (kA (kB (kA d10)))))
noncomputable def r23 := kR (kA (kA (kB (kA (kA (kB (kA d10)))))))
noncomputable def r26 := kR (kB (kB (kA d10)))
noncomputable def r28 := kR (kA (kB d6))
noncomputable def c27 : Code := .seq (.region 8 r28 false) .ret
noncomputable def c11 : Code := .seq (.seq (.region 4 r13 false) (.cond (.tmp 9) .skip (.exit 0))) (.seq (.block 1 (.seq (.region 6 r20 false) (.cond (.tmp 16) (.seq (.region 7 r23 false) .ret) .skip))) (.region 5 r26 false))
noncomputable def c0 : Code := .seq (.region 0 r1 false) (.seq (.region 1 r3 false) (.seq (.region 2 r5 false) (.seq (.seq (.region 3 r8 false) (.block 0 (.loop c11))) c27)))
theorem body : Tryd.f25.body = some c0 := by kernel_rfl
section
variable {base : Nat} {W0 : World} {β0 : Bt}
def L0 (k : Nat) : Nat → Int → (List UInt8) → (List UInt8) → Int → Option (Int)
  | 0, _, _, _, _ => none
  | n + 1, y0, y3, y4, y5 =>
    (if y5 < (List.length y3 : Int) then
    (Option.bind (sat y3 y5) fun p2 =>
    (if (UInt8.toNat p2 : Int) = y0 then
    (Option.bind (sat y4 y5) fun p4 =>
    some (UInt8.toNat p4 : Int)) else
    (L0 k n) y0 y3 y4 (w64 (y5 + 1)))) else
    some y0)
theorem L0_snd {k : Nat}  : ∀ {n : Nat} ⦃y0 : Int⦄ ⦃y3 : (List UInt8)⦄ ⦃y4 : (List UInt8)⦄ ⦃y5 : Int⦄ ⦃S : HS⦄ ⦃p : Int⦄ ⦃g1 g2 g6 g7 g8 g9 g10 g11 g12 g13 g14 g15 g16 g17 g18 g19 g20 : HV⦄, L0 k n y0 y3 y4 y5 = some p → HRun Tryd.prog base W0 β0 25 none [.inLoop c11, .inBlock 0, .code c27] ⟨[(.int .u8 y0), g1, g2, (.str y3), (.str y4), (.int .i64 y5), g6, g7, g8, g9, g10, g11, g12, g13, g14, g15, g16, g17, g18, g19, g20], []⟩ S (fun v S1 => v = (.int .u8 p) ∧ S1 = S) := by
  intro n
  induction n with
  | zero => intro _ _ _ _ _ _ _ _ _ _ _ _ _ _ _ _ _ _ _ _ _ _ _ h; cases h
  | succ n ih =>
    intro y0 y3 y4 y5 S p g1 g2 g6 g7 g8 g9 g10 g11 g12 g13 g14 g15 g16 g17 g18 g19 g20 h
    simp only [L0] at h
    refine hr_inLoop ?_
    refine q_seq rfl ?_
    refine q_seq rfl ?_
    refine q_region rfl rfl ?_
    refine qS 6 rfl (ok_move · (.tmp rfl)) ?_
    refine qS 7 rfl (ok_move · (.tmp rfl)) ?_
    refine qS 8 rfl (ok_len_str · rfl tu9 (.tmp rfl)) ?_
    refine qS 9 rfl (ok_ibin · (.tmp rfl) (.tmp rfl) rfl) ?_
    refine hr_region_end ?_
    try dsimp only [w0, w1, w2, w3]
    rcases ifc h with ⟨hc1, h⟩ | ⟨hc1, h⟩
    · refine q_cond_t rfl (.tmp rfl) (decide_eq_true hc1) ?_
      refine q_skipc rfl ?_
      refine q_seq rfl ?_
      refine q_block rfl ?_
      refine q_seq rfl ?_
      refine q_region rfl rfl ?_
      refine qS 12 rfl (ok_move · (.tmp rfl)) ?_
      refine qS 13 rfl (ok_move · (.tmp rfl)) ?_
      obtain ⟨p2, hp2, h⟩ := bindo h
      refine qS 14 rfl (ok_index_s · tu9 (.tmp rfl) (.tmp rfl) hp2) ?_
      refine qS 15 rfl (ok_move · (.tmp rfl)) ?_
      try dsimp only [w0, w1, w2, w3]
      refine qS 16 rfl (ok_ibin · (.tmp rfl) (.tmp rfl) rfl) ?_
      refine hr_region_end ?_
      try dsimp only [w0, w1, w2, w3]
      rcases ifc h with ⟨hc3, h⟩ | ⟨hc3, h⟩
      · refine q_cond_t rfl (.tmp rfl) (decide_eq_true hc3) ?_
        refine q_seq rfl ?_
        refine q_region rfl rfl ?_
        refine qS 17 rfl (ok_move · (.tmp rfl)) ?_
        refine qS 18 rfl (ok_move · (.tmp rfl)) ?_
        obtain ⟨p4, hp4, h⟩ := bindo h
        refine qS 19 rfl (ok_index_s · tu9 (.tmp rfl) (.tmp rfl) hp4) ?_
        refine qS 2 rfl (ok_assign · (.tmp rfl)) ?_
        refine hr_region_end ?_
        try dsimp only [w0, w1, w2, w3]
        cases h
        exact q_ret rfl at_.at_ rfl (res1 rfl rfl) ⟨rfl, rfl⟩
      · refine q_cond_f rfl (.tmp rfl) (decide_eq_false hc3) ?_
        refine q_skipc rfl ?_
        refine hr_inBlock ?_
        refine q_region rfl rfl ?_
        refine qS 10 rfl (ok_move · (.tmp rfl)) ?_
        refine qS 11 rfl (ok_ibin · (.tmp rfl) (.int _ _) rfl) ?_
        refine qS 5 rfl (ok_assign · (.tmp rfl)) ?_
        refine hr_region_end ?_
        try dsimp only [w0, w1, w2, w3]
        try dsimp only [w0, w1, w2, w3]
        exact ih h
    · refine q_cond_f rfl (.tmp rfl) (decide_eq_false hc1) ?_
      refine q_exit rfl rfl ?_
      refine q_seq rfl ?_
      refine q_region rfl rfl ?_
      refine qS 20 rfl (ok_move · (.tmp rfl)) ?_
      refine qS 2 rfl (ok_assign · (.tmp rfl)) ?_
      refine hr_region_end ?_
      try dsimp only [w0, w1, w2, w3]
      cases h
      exact q_ret rfl at_.at_ rfl (res1 rfl rfl) ⟨rfl, rfl⟩
def f (k : Nat) (x0 : Int) : Option (Int) :=
  L0 k k x0 ([65, 66, 67, 68, 69, 70, 71, 72, 73, 74, 75, 76, 77, 78, 79, 80, 81, 82, 83, 84, 85, 86, 87, 88, 89, 90, 91, 93, 92, 126] : List UInt8) ([97, 98, 99, 100, 101, 102, 103, 104, 105, 106, 107, 108, 109, 110, 111, 112, 113, 114, 115, 116, 117, 118, 119, 120, 121, 122, 123, 125, 124, 94] : List UInt8) 0
theorem snd {k : Nat} {x0 : Int} {S : HS}  {p : Int} (h : f k x0 = some p) : HCall Tryd.prog base W0 β0 25 [(.int .u8 x0)] S (fun v S1 => v = (.int .u8 p) ∧ S1 = S) := by
  unfold f at h
  refine HCall.of_run at_.at_ body ?_
  show HRun Tryd.prog base W0 β0 25 none [.code c0] ⟨[(.int .u8 x0), τ, τ, τ, τ, τ, τ, τ, τ, τ, τ, τ, τ, τ, τ, τ, τ, τ, τ, τ, τ], []⟩ S _
  refine q_seq rfl ?_
  refine q_region rfl rfl ?_
  refine qS 2 rfl (ok_assign · (.int _ _)) ?_
  refine hr_region_end ?_
  try dsimp only [w0, w1, w2, w3]
  refine q_seq rfl ?_
  refine q_region rfl rfl ?_
  refine qS 3 rfl (ok_assign · (.str _)) ?_
  refine hr_region_end ?_
  try dsimp only [w0, w1, w2, w3]
  refine q_seq rfl ?_
  refine q_region rfl rfl ?_
  refine qS 4 rfl (ok_assign · (.str _)) ?_
  refine hr_region_end ?_
  try dsimp only [w0, w1, w2, w3]
  refine q_seq rfl ?_
  refine q_seq rfl ?_
  refine q_region rfl rfl ?_
  refine qS 5 rfl (ok_assign · (.int _ _)) ?_
  refine hr_region_end ?_
  try dsimp only [w0, w1, w2, w3]
  refine q_block rfl ?_
  refine q_loop rfl ?_
  try dsimp only [w0, w1, w2, w3]
  exact L0_snd  h
end
end rollcallref01_Byte
namespace rollcallref04_Match
theorem at_ : FnAt Tryd.prog 11 Tryd.f11 := ⟨Tryd.func11, by kernel_rfl⟩
noncomputable def d0 := (Tryd.f11.body).getD .skip
noncomputable def r1 := kR (kA d0)
noncomputable def r3 := kR (kA (kB d0))
noncomputable def r5 := kR (kA (kB (kB d0)))
noncomputable def d6 := kB (kB (kB d0))
noncomputable def r8 := kR (kA (kA d6))
noncomputable def d10 := kA (kB (kA d6))
noncomputable def r13 := kR (kA (kA (kA d10)))
noncomputable def d18 := kA (kB (kA d10))
noncomputable def r20 := kR (kA (kA d18))
noncomputable def d22 := kA (kB (kA d18))
noncomputable def r23 := kR (kA d22)
noncomputable def d26 := kA (kA (kB d22))
noncomputable def r28 := kR (kA (kA d26))
noncomputable def d34 := kA (kA (kB d26))
noncomputable def r35 := kR (kA d34)
noncomputable def r37 := kR (kA (kB d34))
noncomputable def r39 := kR (kA (kB (kB d34)))
noncomputable def r41 := kR (kA (kB (kB (kB d34))))
noncomputable def r43 := kR (kB (kB d26))
noncomputable def r44 := kR (kB (kB (kA d18)))
noncomputable def r45 := kR (kB (kB (kA d10)))
noncomputable def r47 := kR (kA (kB d6))
noncomputable def c46 : Code := .seq (.region 15 r47 false) .ret
noncomputable def c45 : Code := .region 5 r45 false
noncomputable def c44 : Code := .region 14 r44 false
noncomputable def c43 : Code := .region 9 r43 false
noncomputable def c40 : Code := .cond (.tmp 61) (.region 13 r41 true) .skip
noncomputable def c26 : Code := .seq (.seq (.region 8 r28 false) (.cond (.tmp 28) .skip (.exit 2))) (.seq (.block 3 (.seq (.region 10 r35 false) (.cond (.tmp 34) (.region 11 r37 false) (.seq (.region 12 r39 false) c40)))) c43)
noncomputable def c11 : Code := .seq (.seq (.region 4 r13 false) (.cond (.tmp 18) .skip (.exit 0))) (.seq (.block 1 (.seq (.region 6 r20 false) (.seq (.seq (.region 7 r23 false) (.block 2 (.loop c26))) c44))) c45)
noncomputable def c0 : Code := .seq (.region 0 r1 false) (.seq (.region 1 r3 false) (.seq (.region 2 r5 false) (.seq (.seq (.region 3 r8 false) (.block 0 (.loop c11))) c46)))
theorem body : Tryd.f11.body = some c0 := by kernel_rfl
section
variable {base : Nat} {W0 : World} {β0 : Bt}
def J3 (k : Nat) (rec0 : (List UInt8) → (List UInt8) → Sl → Int → Sl → Int → HS → Option ((Bool) × HS)) (rec1 : (List UInt8) → (List UInt8) → Sl → Int → HS → Option ((Bool) × HS)) (y0 : (List UInt8)) (y1 : (List UInt8)) (y5 : Sl) (y6 : Int) (y7 : Sl) (y8 : Int) (S : HS) : Option ((Bool) × HS) :=
  rec0 y0 y1 y5 y6 y7 (w64 (y8 + 1)) S
theorem J3_snd {k : Nat} {rec0 : (List UInt8) → (List UInt8) → Sl → Int → Sl → Int → HS → Option ((Bool) × HS)} {rec1 : (List UInt8) → (List UInt8) → Sl → Int → HS → Option ((Bool) × HS)} (hrec0 : ∀ ⦃y0 : (List UInt8)⦄ ⦃y1 : (List UInt8)⦄ ⦃y5 : Sl⦄ ⦃y6 : Int⦄ ⦃y7 : Sl⦄ ⦃y8 : Int⦄ ⦃S : HS⦄ ⦃p : (Bool) × HS⦄ ⦃g2 g3 g4 g9 g10 g11 g12 g13 g14 g15 g16 g17 g18 g19 g20 g21 g22 g23 g24 g25 g26 g27 g28 g29 g30 g31 g32 g33 g34 g35 g36 g37 g38 g39 g40 g41 g42 g43 g44 g45 g46 g47 g48 g49 g50 g51 g52 g53 g54 g55 g56 g57 g58 g59 g60 g61 g62 g63 g64 g65 g66 g67 g68 g69 g70 g71 g72 g73 g74 g75 g76 g77 g78 g79 g80 g81 g82 g83 g84 g85 g86 : HV⦄, rec0 y0 y1 y5 y6 y7 y8 S = some p → HRun Tryd.prog base W0 β0 11 none [.inLoop c26, .inBlock 2, .code c44, .inBlock 1, .code c45, .inLoop c11, .inBlock 0, .code c46] ⟨[(.str y0), (.str y1), g2, g3, g4, (Sl.hv y5), (.int .i64 y6), (Sl.hv y7), (.int .i64 y8), g9, g10, g11, g12, g13, g14, g15, g16, g17, g18, g19, g20, g21, g22, g23, g24, g25, g26, g27, g28, g29, g30, g31, g32, g33, g34, g35, g36, g37, g38, g39, g40, g41, g42, g43, g44, g45, g46, g47, g48, g49, g50, g51, g52, g53, g54, g55, g56, g57, g58, g59, g60, g61, g62, g63, g64, g65, g66, g67, g68, g69, g70, g71, g72, g73, g74, g75, g76, g77, g78, g79, g80, g81, g82, g83, g84, g85, g86], []⟩ S (fun v S1 => v = (.bool p.1) ∧ S1 = p.2)) (hrec1 : ∀ ⦃y0 : (List UInt8)⦄ ⦃y1 : (List UInt8)⦄ ⦃y5 : Sl⦄ ⦃y6 : Int⦄ ⦃S : HS⦄ ⦃p : (Bool) × HS⦄ ⦃g2 g3 g4 g7 g8 g9 g10 g11 g12 g13 g14 g15 g16 g17 g18 g19 g20 g21 g22 g23 g24 g25 g26 g27 g28 g29 g30 g31 g32 g33 g34 g35 g36 g37 g38 g39 g40 g41 g42 g43 g44 g45 g46 g47 g48 g49 g50 g51 g52 g53 g54 g55 g56 g57 g58 g59 g60 g61 g62 g63 g64 g65 g66 g67 g68 g69 g70 g71 g72 g73 g74 g75 g76 g77 g78 g79 g80 g81 g82 g83 g84 g85 g86 : HV⦄, rec1 y0 y1 y5 y6 S = some p → HRun Tryd.prog base W0 β0 11 none [.inLoop c11, .inBlock 0, .code c46] ⟨[(.str y0), (.str y1), g2, g3, g4, (Sl.hv y5), (.int .i64 y6), g7, g8, g9, g10, g11, g12, g13, g14, g15, g16, g17, g18, g19, g20, g21, g22, g23, g24, g25, g26, g27, g28, g29, g30, g31, g32, g33, g34, g35, g36, g37, g38, g39, g40, g41, g42, g43, g44, g45, g46, g47, g48, g49, g50, g51, g52, g53, g54, g55, g56, g57, g58, g59, g60, g61, g62, g63, g64, g65, g66, g67, g68, g69, g70, g71, g72, g73, g74, g75, g76, g77, g78, g79, g80, g81, g82, g83, g84, g85, g86], []⟩ S (fun v S1 => v = (.bool p.1) ∧ S1 = p.2)) {y0 : (List UInt8)} {y1 : (List UInt8)} {y5 : Sl} {y6 : Int} {y7 : Sl} {y8 : Int} {S : HS} {p : (Bool) × HS} {g2 g3 g4 g9 g10 g11 g12 g13 g14 g15 g16 g17 g18 g19 g20 g21 g22 g23 g24 g25 g26 g27 g28 g29 g30 g31 g32 g33 g34 g35 g36 g37 g38 g39 g40 g41 g42 g43 g44 g45 g46 g47 g48 g49 g50 g51 g52 g53 g54 g55 g56 g57 g58 g59 g60 g61 g62 g63 g64 g65 g66 g67 g68 g69 g70 g71 g72 g73 g74 g75 g76 g77 g78 g79 g80 g81 g82 g83 g84 g85 g86 : HV} (h : J3 k rec0 rec1 y0 y1 y5 y6 y7 y8 S = some p) : HRun Tryd.prog base W0 β0 11 none [.code c43, .inLoop c26, .inBlock 2, .code c44, .inBlock 1, .code c45, .inLoop c11, .inBlock 0, .code c46] ⟨[(.str y0), (.str y1), g2, g3, g4, (Sl.hv y5), (.int .i64 y6), (Sl.hv y7), (.int .i64 y8), g9, g10, g11, g12, g13, g14, g15, g16, g17, g18, g19, g20, g21, g22, g23, g24, g25, g26, g27, g28, g29, g30, g31, g32, g33, g34, g35, g36, g37, g38, g39, g40, g41, g42, g43, g44, g45, g46, g47, g48, g49, g50, g51, g52, g53, g54, g55, g56, g57, g58, g59, g60, g61, g62, g63, g64, g65, g66, g67, g68, g69, g70, g71, g72, g73, g74, g75, g76, g77, g78, g79, g80, g81, g82, g83, g84, g85, g86], []⟩ S (fun v S1 => v = (.bool p.1) ∧ S1 = p.2) := by
  unfold J3 at h
  refine q_region rfl rfl ?_
  refine qS 29 rfl (ok_move · (.tmp rfl)) ?_
  refine qS 30 rfl (ok_ibin · (.tmp rfl) (.int _ _) rfl) ?_
  refine qS 8 rfl (ok_assign · (.tmp rfl)) ?_
  refine hr_region_end ?_
  try dsimp only [w0, w1, w2, w3]
  try dsimp only [w0, w1, w2, w3]
  exact hrec0 h
def J2 (k : Nat) (rec0 : (List UInt8) → (List UInt8) → Sl → Int → Sl → Int → HS → Option ((Bool) × HS)) (rec1 : (List UInt8) → (List UInt8) → Sl → Int → HS → Option ((Bool) × HS)) (y0 : (List UInt8)) (y1 : (List UInt8)) (y5 : Sl) (y6 : Int) (y7 : Sl) (y8 : Int) (y35 : Sl) (y36 : Int) (y51 : Bool) (S : HS) : Option ((Bool) × HS) :=
  (Option.bind (HS.idx S y35 y36 1) fun p12 =>
  (Option.bind (HS.sets S p12 [(.bool y51)]) fun p13 =>
  J3 k rec0 rec1 y0 y1 y5 y6 y7 y8 p13))
theorem J2_snd {k : Nat} {rec0 : (List UInt8) → (List UInt8) → Sl → Int → Sl → Int → HS → Option ((Bool) × HS)} {rec1 : (List UInt8) → (List UInt8) → Sl → Int → HS → Option ((Bool) × HS)} (hrec0 : ∀ ⦃y0 : (List UInt8)⦄ ⦃y1 : (List UInt8)⦄ ⦃y5 : Sl⦄ ⦃y6 : Int⦄ ⦃y7 : Sl⦄ ⦃y8 : Int⦄ ⦃S : HS⦄ ⦃p : (Bool) × HS⦄ ⦃g2 g3 g4 g9 g10 g11 g12 g13 g14 g15 g16 g17 g18 g19 g20 g21 g22 g23 g24 g25 g26 g27 g28 g29 g30 g31 g32 g33 g34 g35 g36 g37 g38 g39 g40 g41 g42 g43 g44 g45 g46 g47 g48 g49 g50 g51 g52 g53 g54 g55 g56 g57 g58 g59 g60 g61 g62 g63 g64 g65 g66 g67 g68 g69 g70 g71 g72 g73 g74 g75 g76 g77 g78 g79 g80 g81 g82 g83 g84 g85 g86 : HV⦄, rec0 y0 y1 y5 y6 y7 y8 S = some p → HRun Tryd.prog base W0 β0 11 none [.inLoop c26, .inBlock 2, .code c44, .inBlock 1, .code c45, .inLoop c11, .inBlock 0, .code c46] ⟨[(.str y0), (.str y1), g2, g3, g4, (Sl.hv y5), (.int .i64 y6), (Sl.hv y7), (.int .i64 y8), g9, g10, g11, g12, g13, g14, g15, g16, g17, g18, g19, g20, g21, g22, g23, g24, g25, g26, g27, g28, g29, g30, g31, g32, g33, g34, g35, g36, g37, g38, g39, g40, g41, g42, g43, g44, g45, g46, g47, g48, g49, g50, g51, g52, g53, g54, g55, g56, g57, g58, g59, g60, g61, g62, g63, g64, g65, g66, g67, g68, g69, g70, g71, g72, g73, g74, g75, g76, g77, g78, g79, g80, g81, g82, g83, g84, g85, g86], []⟩ S (fun v S1 => v = (.bool p.1) ∧ S1 = p.2)) (hrec1 : ∀ ⦃y0 : (List UInt8)⦄ ⦃y1 : (List UInt8)⦄ ⦃y5 : Sl⦄ ⦃y6 : Int⦄ ⦃S : HS⦄ ⦃p : (Bool) × HS⦄ ⦃g2 g3 g4 g7 g8 g9 g10 g11 g12 g13 g14 g15 g16 g17 g18 g19 g20 g21 g22 g23 g24 g25 g26 g27 g28 g29 g30 g31 g32 g33 g34 g35 g36 g37 g38 g39 g40 g41 g42 g43 g44 g45 g46 g47 g48 g49 g50 g51 g52 g53 g54 g55 g56 g57 g58 g59 g60 g61 g62 g63 g64 g65 g66 g67 g68 g69 g70 g71 g72 g73 g74 g75 g76 g77 g78 g79 g80 g81 g82 g83 g84 g85 g86 : HV⦄, rec1 y0 y1 y5 y6 S = some p → HRun Tryd.prog base W0 β0 11 none [.inLoop c11, .inBlock 0, .code c46] ⟨[(.str y0), (.str y1), g2, g3, g4, (Sl.hv y5), (.int .i64 y6), g7, g8, g9, g10, g11, g12, g13, g14, g15, g16, g17, g18, g19, g20, g21, g22, g23, g24, g25, g26, g27, g28, g29, g30, g31, g32, g33, g34, g35, g36, g37, g38, g39, g40, g41, g42, g43, g44, g45, g46, g47, g48, g49, g50, g51, g52, g53, g54, g55, g56, g57, g58, g59, g60, g61, g62, g63, g64, g65, g66, g67, g68, g69, g70, g71, g72, g73, g74, g75, g76, g77, g78, g79, g80, g81, g82, g83, g84, g85, g86], []⟩ S (fun v S1 => v = (.bool p.1) ∧ S1 = p.2)) {y0 : (List UInt8)} {y1 : (List UInt8)} {y5 : Sl} {y6 : Int} {y7 : Sl} {y8 : Int} {y35 : Sl} {y36 : Int} {y51 : Bool} {S : HS} {p : (Bool) × HS} {g2 g3 g4 g9 g10 g11 g12 g13 g14 g15 g16 g17 g18 g19 g20 g21 g22 g23 g24 g25 g26 g27 g28 g29 g30 g31 g32 g33 g34 g37 g38 g39 g40 g41 g42 g43 g44 g45 g46 g47 g48 g49 g50 g52 g53 g54 g55 g56 g57 g58 g59 g60 g61 g62 g63 g64 g65 g66 g67 g68 g69 g70 g71 g72 g73 g74 g75 g76 g77 g78 g79 g80 g81 g82 g83 g84 g85 g86 : HV} (h : J2 k rec0 rec1 y0 y1 y5 y6 y7 y8 y35 y36 y51 S = some p) : HRun Tryd.prog base W0 β0 11 none [.inRegion r37 [17, 18], .inBlock 3, .code c43, .inLoop c26, .inBlock 2, .code c44, .inBlock 1, .code c45, .inLoop c11, .inBlock 0, .code c46] ⟨[(.str y0), (.str y1), g2, g3, g4, (Sl.hv y5), (.int .i64 y6), (Sl.hv y7), (.int .i64 y8), g9, g10, g11, g12, g13, g14, g15, g16, g17, g18, g19, g20, g21, g22, g23, g24, g25, g26, g27, g28, g29, g30, g31, g32, g33, g34, (Sl.hv y35), (.int .i64 y36), g37, g38, g39, g40, g41, g42, g43, g44, g45, g46, g47, g48, g49, g50, (.bool y51), g52, g53, g54, g55, g56, g57, g58, g59, g60, g61, g62, g63, g64, g65, g66, g67, g68, g69, g70, g71, g72, g73, g74, g75, g76, g77, g78, g79, g80, g81, g82, g83, g84, g85, g86], []⟩ S (fun v S1 => v = (.bool p.1) ∧ S1 = p.2) := by
  unfold J2 at h
  obtain ⟨p12, hp12, h⟩ := bindo h
  refine qS 52 rfl (ok_indexAddr (s := y35) · tu31 sz4 (.tmp rfl) (.tmp rfl) hp12) ?_
  obtain ⟨p13, hp13, h⟩ := bindo h
  refine qN rfl (ok_store_s (v := (.bool y51)) · sz4 (.tmp rfl) rfl (.tmp rfl) rfl hp13) ?_
  refine hr_region_end ?_
  try dsimp only [w0, w1, w2, w3]
  refine hr_inBlock ?_
  try dsimp only [w0, w1, w2, w3]
  exact J3_snd hrec0 hrec1 h
def J4 (k : Nat) (rec0 : (List UInt8) → (List UInt8) → Sl → Int → Sl → Int → HS → Option ((Bool) × HS)) (rec1 : (List UInt8) → (List UInt8) → Sl → Int → HS → Option ((Bool) × HS)) (y0 : (List UInt8)) (y1 : (List UInt8)) (y5 : Sl) (y6 : Int) (y7 : Sl) (y8 : Int) (y35 : Sl) (y36 : Int) (y41 : Bool) (y50 : Bool) (S : HS) : Option ((Bool) × HS) :=
  (if y41 = true then
  J2 k rec0 rec1 y0 y1 y5 y6 y7 y8 y35 y36 true S else
  J2 k rec0 rec1 y0 y1 y5 y6 y7 y8 y35 y36 y50 S)
theorem J4_snd {k : Nat} {rec0 : (List UInt8) → (List UInt8) → Sl → Int → Sl → Int → HS → Option ((Bool) × HS)} {rec1 : (List UInt8) → (List UInt8) → Sl → Int → HS → Option ((Bool) × HS)} (hrec0 : ∀ ⦃y0 : (List UInt8)⦄ ⦃y1 : (List UInt8)⦄ ⦃y5 : Sl⦄ ⦃y6 : Int⦄ ⦃y7 : Sl⦄ ⦃y8 : Int⦄ ⦃S : HS⦄ ⦃p : (Bool) × HS⦄ ⦃g2 g3 g4 g9 g10 g11 g12 g13 g14 g15 g16 g17 g18 g19 g20 g21 g22 g23 g24 g25 g26 g27 g28 g29 g30 g31 g32 g33 g34 g35 g36 g37 g38 g39 g40 g41 g42 g43 g44 g45 g46 g47 g48 g49 g50 g51 g52 g53 g54 g55 g56 g57 g58 g59 g60 g61 g62 g63 g64 g65 g66 g67 g68 g69 g70 g71 g72 g73 g74 g75 g76 g77 g78 g79 g80 g81 g82 g83 g84 g85 g86 : HV⦄, rec0 y0 y1 y5 y6 y7 y8 S = some p → HRun Tryd.prog base W0 β0 11 none [.inLoop c26, .inBlock 2, .code c44, .inBlock 1, .code c45, .inLoop c11, .inBlock 0, .code c46] ⟨[(.str y0), (.str y1), g2, g3, g4, (Sl.hv y5), (.int .i64 y6), (Sl.hv y7), (.int .i64 y8), g9, g10, g11, g12, g13, g14, g15, g16, g17, g18, g19, g20, g21, g22, g23, g24, g25, g26, g27, g28, g29, g30, g31, g32, g33, g34, g35, g36, g37, g38, g39, g40, g41, g42, g43, g44, g45, g46, g47, g48, g49, g50, g51, g52, g53, g54, g55, g56, g57, g58, g59, g60, g61, g62, g63, g64, g65, g66, g67, g68, g69, g70, g71, g72, g73, g74, g75, g76, g77, g78, g79, g80, g81, g82, g83, g84, g85, g86], []⟩ S (fun v S1 => v = (.bool p.1) ∧ S1 = p.2)) (hrec1 : ∀ ⦃y0 : (List UInt8)⦄ ⦃y1 : (List UInt8)⦄ ⦃y5 : Sl⦄ ⦃y6 : Int⦄ ⦃S : HS⦄ ⦃p : (Bool) × HS⦄ ⦃g2 g3 g4 g7 g8 g9 g10 g11 g12 g13 g14 g15 g16 g17 g18 g19 g20 g21 g22 g23 g24 g25 g26 g27 g28 g29 g30 g31 g32 g33 g34 g35 g36 g37 g38 g39 g40 g41 g42 g43 g44 g45 g46 g47 g48 g49 g50 g51 g52 g53 g54 g55 g56 g57 g58 g59 g60 g61 g62 g63 g64 g65 g66 g67 g68 g69 g70 g71 g72 g73 g74 g75 g76 g77 g78 g79 g80 g81 g82 g83 g84 g85 g86 : HV⦄, rec1 y0 y1 y5 y6 S = some p → HRun Tryd.prog base W0 β0 11 none [.inLoop c11, .inBlock 0, .code c46] ⟨[(.str y0), (.str y1), g2, g3, g4, (Sl.hv y5), (.int .i64 y6), g7, g8, g9, g10, g11, g12, g13, g14, g15, g16, g17, g18, g19, g20, g21, g22, g23, g24, g25, g26, g27, g28, g29, g30, g31, g32, g33, g34, g35, g36, g37, g38, g39, g40, g41, g42, g43, g44, g45, g46, g47, g48, g49, g50, g51, g52, g53, g54, g55, g56, g57, g58, g59, g60, g61, g62, g63, g64, g65, g66, g67, g68, g69, g70, g71, g72, g73, g74, g75, g76, g77, g78, g79, g80, g81, g82, g83, g84, g85, g86], []⟩ S (fun v S1 => v = (.bool p.1) ∧ S1 = p.2)) {y0 : (List UInt8)} {y1 : (List UInt8)} {y5 : Sl} {y6 : Int} {y7 : Sl} {y8 : Int} {y35 : Sl} {y36 : Int} {y41 : Bool} {y50 : Bool} {S : HS} {p : (Bool) × HS} {g2 g3 g4 g9 g10 g11 g12 g13 g14 g15 g16 g17 g18 g19 g20 g21 g22 g23 g24 g25 g26 g27 g28 g29 g30 g31 g32 g33 g34 g37 g38 g39 g40 g42 g43 g44 g45 g46 g47 g48 g49 g51 g52 g53 g54 g55 g56 g57 g58 g59 g60 g61 g62 g63 g64 g65 g66 g67 g68 g69 g70 g71 g72 g73 g74 g75 g76 g77 g78 g79 g80 g81 g82 g83 g84 g85 g86 : HV} (h : J4 k rec0 rec1 y0 y1 y5 y6 y7 y8 y35 y36 y41 y50 S = some p) : HRun Tryd.prog base W0 β0 11 none [.inRegion r37 [16, 17, 18], .inBlock 3, .code c43, .inLoop c26, .inBlock 2, .code c44, .inBlock 1, .code c45, .inLoop c11, .inBlock 0, .code c46] ⟨[(.str y0), (.str y1), g2, g3, g4, (Sl.hv y5), (.int .i64 y6), (Sl.hv y7), (.int .i64 y8), g9, g10, g11, g12, g13, g14, g15, g16, g17, g18, g19, g20, g21, g22, g23, g24, g25, g26, g27, g28, g29, g30, g31, g32, g33, g34, (Sl.hv y35), (.int .i64 y36), g37, g38, g39, g40, (.bool y41), g42, g43, g44, g45, g46, g47, g48, g49, (.bool y50), g51, g52, g53, g54, g55, g56, g57, g58, g59, g60, g61, g62, g63, g64, g65, g66, g67, g68, g69, g70, g71, g72, g73, g74, g75, g76, g77, g78, g79, g80, g81, g82, g83, g84, g85, g86], []⟩ S (fun v S1 => v = (.bool p.1) ∧ S1 = p.2) := by
  unfold J4 at h
  rcases ifc h with ⟨hc17, h⟩ | ⟨hc17, h⟩
  · refine qS 51 rfl (ok_pick_tt · (.tmp rfl) hc17 (.bool _)) ?_
    try dsimp only [w0, w1, w2, w3]
    exact J2_snd hrec0 hrec1 h
  · refine qS 51 rfl (ok_pick_ff · (.tmp rfl) (bfalse hc17) (.tmp rfl)) ?_
    try dsimp only [w0, w1, w2, w3]
    exact J2_snd hrec0 hrec1 h
def J5 (k : Nat) (rec0 : (List UInt8) → (List UInt8) → Sl → Int → Sl → Int → HS → Option ((Bool) × HS)) (rec1 : (List UInt8) → (List UInt8) → Sl → Int → HS → Option ((Bool) × HS)) (y0 : (List UInt8)) (y1 : (List UInt8)) (y5 : Sl) (y6 : Int) (y7 : Sl) (y8 : Int) (y61 : Bool) (S : HS) : Option ((Bool) × HS) :=
  (if y61 = true then
  (Option.bind (sat y0 y6) fun p22 =>
  (if (UInt8.toNat p22 : Int) = 63 then
  (Option.bind (HS.idx S y7 y8 1) fun p24 =>
  (Option.bind (HS.sets S p24 [(.bool true)]) fun p25 =>
  J3 k rec0 rec1 y0 y1 y5 y6 y7 y8 p25)) else
  (Option.bind (sat y0 y6) fun p26 =>
  (Option.bind (rollcallref01_Byte.f k (UInt8.toNat p26 : Int)) fun p27 =>
  (Option.bind (sat y1 (w64 (y8 - 1))) fun p28 =>
  (Option.bind (rollcallref01_Byte.f k (UInt8.toNat p28 : Int)) fun p29 =>
  (Option.bind (HS.idx S y7 y8 1) fun p30 =>
  (Option.bind (HS.sets S p30 [(.bool (decide (p27 = p29)))]) fun p31 =>
  J3 k rec0 rec1 y0 y1 y5 y6 y7 y8 p31)))))))) else
  J3 k rec0 rec1 y0 y1 y5 y6 y7 y8 S)
theorem J5_snd {k : Nat} {rec0 : (List UInt8) → (List UInt8) → Sl → Int → Sl → Int → HS → Option ((Bool) × HS)} {rec1 : (List UInt8) → (List UInt8) → Sl → Int → HS → Option ((Bool) × HS)} (hrec0 : ∀ ⦃y0 : (List UInt8)⦄ ⦃y1 : (List UInt8)⦄ ⦃y5 : Sl⦄ ⦃y6 : Int⦄ ⦃y7 : Sl⦄ ⦃y8 : Int⦄ ⦃S : HS⦄ ⦃p : (Bool) × HS⦄ ⦃g2 g3 g4 g9 g10 g11 g12 g13 g14 g15 g16 g17 g18 g19 g20 g21 g22 g23 g24 g25 g26 g27 g28 g29 g30 g31 g32 g33 g34 g35 g36 g37 g38 g39 g40 g41 g42 g43 g44 g45 g46 g47 g48 g49 g50 g51 g52 g53 g54 g55 g56 g57 g58 g59 g60 g61 g62 g63 g64 g65 g66 g67 g68 g69 g70 g71 g72 g73 g74 g75 g76 g77 g78 g79 g80 g81 g82 g83 g84 g85 g86 : HV⦄, rec0 y0 y1 y5 y6 y7 y8 S = some p → HRun Tryd.prog base W0 β0 11 none [.inLoop c26, .inBlock 2, .code c44, .inBlock 1, .code c45, .inLoop c11, .inBlock 0, .code c46] ⟨[(.str y0), (.str y1), g2, g3, g4, (Sl.hv y5), (.int .i64 y6), (Sl.hv y7), (.int .i64 y8), g9, g10, g11, g12, g13, g14, g15, g16, g17, g18, g19, g20, g21, g22, g23, g24, g25, g26, g27, g28, g29, g30, g31, g32, g33, g34, g35, g36, g37, g38, g39, g40, g41, g42, g43, g44, g45, g46, g47, g48, g49, g50, g51, g52, g53, g54, g55, g56, g57, g58, g59, g60, g61, g62, g63, g64, g65, g66, g67, g68, g69, g70, g71, g72, g73, g74, g75, g76, g77, g78, g79, g80, g81, g82, g83, g84, g85, g86], []⟩ S (fun v S1 => v = (.bool p.1) ∧ S1 = p.2)) (hrec1 : ∀ ⦃y0 : (List UInt8)⦄ ⦃y1 : (List UInt8)⦄ ⦃y5 : Sl⦄ ⦃y6 : Int⦄ ⦃S : HS⦄ ⦃p : (Bool) × HS⦄ ⦃g2 g3 g4 g7 g8 g9 g10 g11 g12 g13 g14 g15 g16 g17 g18 g19 g20 g21 g22 g23 g24 g25 g26 g27 g28 g29 g30 g31 g32 g33 g34 g35 g36 g37 g38 g39 g40 g41 g42 g43 g44 g45 g46 g47 g48 g49 g50 g51 g52 g53 g54 g55 g56 g57 g58 g59 g60 g61 g62 g63 g64 g65 g66 g67 g68 g69 g70 g71 g72 g73 g74 g75 g76 g77 g78 g79 g80 g81 g82 g83 g84 g85 g86 : HV⦄, rec1 y0 y1 y5 y6 S = some p → HRun Tryd.prog base W0 β0 11 none [.inLoop c11, .inBlock 0, .code c46] ⟨[(.str y0), (.str y1), g2, g3, g4, (Sl.hv y5), (.int .i64 y6), g7, g8, g9, g10, g11, g12, g13, g14, g15, g16, g17, g18, g19, g20, g21, g22, g23, g24, g25, g26, g27, g28, g29, g30, g31, g32, g33, g34, g35, g36, g37, g38, g39, g40, g41, g42, g43, g44, g45, g46, g47, g48, g49, g50, g51, g52, g53, g54, g55, g56, g57, g58, g59, g60, g61, g62, g63, g64, g65, g66, g67, g68, g69, g70, g71, g72, g73, g74, g75, g76, g77, g78, g79, g80, g81, g82, g83, g84, g85, g86], []⟩ S (fun v S1 => v = (.bool p.1) ∧ S1 = p.2)) {y0 : (List UInt8)} {y1 : (List UInt8)} {y5 : Sl} {y6 : Int} {y7 : Sl} {y8 : Int} {y61 : Bool} {S : HS} {p : (Bool) × HS} {g2 g3 g4 g9 g10 g11 g12 g13 g14 g15 g16 g17 g18 g19 g20 g21 g22 g23 g24 g25 g26 g27 g28 g29 g30 g31 g32 g33 g34 g35 g36 g37 g38 g39 g40 g41 g42 g43 g44 g45 g46 g47 g48 g49 g50 g51 g52 g53 g54 g55 g56 g57 g58 g59 g60 g62 g63 g64 g65 g66 g67 g68 g69 g70 g71 g72 g73 g74 g75 g76 g77 g78 g79 g80 g81 g82 g83 g84 g85 g86 : HV} (h : J5 k rec0 rec1 y0 y1 y5 y6 y7 y8 y61 S = some p) : HRun Tryd.prog base W0 β0 11 none [.code c40, .inBlock 3, .code c43, .inLoop c26, .inBlock 2, .code c44, .inBlock 1, .code c45, .inLoop c11, .inBlock 0, .code c46] ⟨[(.str y0), (.str y1), g2, g3, g4, (Sl.hv y5), (.int .i64 y6), (Sl.hv y7), (.int .i64 y8), g9, g10, g11, g12, g13, g14, g15, g16, g17, g18, g19, g20, g21, g22, g23, g24, g25, g26, g27, g28, g29, g30, g31, g32, g33, g34, g35, g36, g37, g38, g39, g40, g41, g42, g43, g44, g45, g46, g47, g48, g49, g50, g51, g52, g53, g54, g55, g56, g57, g58, g59, g60, (.bool y61), g62, g63, g64, g65, g66, g67, g68, g69, g70, g71, g72, g73, g74, g75, g76, g77, g78, g79, g80, g81, g82, g83, g84, g85, g86], []⟩ S (fun v S1 => v = (.bool p.1) ∧ S1 = p.2) := by
  unfold J5 at h
  rcases ifc h with ⟨hc21, h⟩ | ⟨hc21, h⟩
  · refine q_cond_t rfl (.tmp rfl) hc21 ?_
    refine x_start (cls := [0, 0, 0, 0, 0, 0, 0, 0, 0, 0, 0, 0, 0, 0, 0, 0, 0, 0, 1, 2]) (rk := [0, 1, 2, 3, 4, 5, 6, 7, 8, 9, 10, 11, 12, 13, 14, 15, 16, 17, 18, 19]) rfl (by kernel_rfl) ?_
    refine yf 62 [7] rfl (ok_move · (.tmp rfl)) ?_
    refine yf 63 [8] rfl (ok_move · (.tmp rfl)) ?_
    refine yf 64 [0] rfl (ok_move · (.tmp rfl)) ?_
    refine yf 65 [6] rfl (ok_move · (.tmp rfl)) ?_
    try dsimp only [w0, w1, w2, w3]
    obtain ⟨p22, hp22, h⟩ := bindo h
    refine yf 66 [64, 65] rfl (ok_index_s · tu9 (.tmp rfl) (.tmp rfl) hp22) ?_
    refine yf 67 [66] rfl (ok_ibin · (.tmp rfl) (.int _ _) rfl) ?_
    refine yf 68 [67] rfl (ok_move · (.tmp rfl)) ?_
    rcases ifc h with ⟨hc23, h⟩ | ⟨hc23, h⟩
    · refine yfs 69 68 [0, 68] rfl (decide_eq_true hc23) ?_
      try dsimp only [w0, w1, w2, w3]
      refine yfs 70 68 [6, 68] rfl (decide_eq_true hc23) ?_
      refine yfs 71 68 [69, 70, 68] rfl (decide_eq_true hc23) ?_
      refine yfs 72 68 [71, 68] rfl (decide_eq_true hc23) ?_
      refine yfs 73 68 [1, 68] rfl (decide_eq_true hc23) ?_
      try dsimp only [w0, w1, w2, w3]
      refine yfs 74 68 [8, 68] rfl (decide_eq_true hc23) ?_
      refine yfs 75 68 [74, 68] rfl (decide_eq_true hc23) ?_
      refine yfs 76 68 [73, 75, 68] rfl (decide_eq_true hc23) ?_
      refine yfs 77 68 [76, 68] rfl (decide_eq_true hc23) ?_
      try dsimp only [w0, w1, w2, w3]
      refine yfs 78 68 [72, 77, 68] rfl (decide_eq_true hc23) ?_
      refine yf 79 [68, 78] rfl (ok_pick_tt · (.tmp rfl) (decide_eq_true hc23) (.bool _)) ?_
      obtain ⟨p24, hp24, h⟩ := bindo h
      refine yr 80 [62, 63] rfl (ok_indexAddr (s := y7) · tu31 sz4 (.tmp rfl) (.tmp rfl) hp24) ?_
      obtain ⟨p25, hp25, h⟩ := bindo h
      refine x_go (e_op (dst := none) (ts := [80, 79]) rfl (by intro _ _ h; cases h) (by kernel_rfl) (fun _ ho => ok_store_s (v := (.bool true)) ho sz4 (.tmp rfl) rfl (.tmp rfl) rfl hp25)) rfl ?_
      refine x_rest rfl ?_
      refine hr_region_end ?_
      try dsimp only [w0, w1, w2, w3]
      refine hr_inBlock ?_
      try dsimp only [w0, w1, w2, w3]
      exact J3_snd hrec0 hrec1 h
    · refine yfg 69 68 [0, 68] rfl (decide_eq_false hc23) (ok_move · (.tmp rfl)) ?_
      try dsimp only [w0, w1, w2, w3]
      refine yfg 70 68 [6, 68] rfl (decide_eq_false hc23) (ok_move · (.tmp rfl)) ?_
      obtain ⟨p26, hp26, h⟩ := bindo h
      refine yfg 71 68 [69, 70, 68] rfl (decide_eq_false hc23) (ok_index_s · tu9 (.tmp rfl) (.tmp rfl) hp26) ?_
      obtain ⟨p27, hp27, h⟩ := bindo h
      refine x_go (f_call_g (dst := some 72) (t := 68) (ts := [71, 68]) rfl (by kernel_rfl) rfl rfl (decide_eq_false hc23) (.func _) (.cons (.tmp rfl) Evs.nil) (fun _ => (HInv.static rollcallref01_Byte.at_ rollcallref01_Byte.body (rollcallref01_Byte.snd  hp27)))) rfl ?_
      refine yfg 73 68 [1, 68] rfl (decide_eq_false hc23) (ok_move · (.tmp rfl)) ?_
      try dsimp only [w0, w1, w2, w3]
      refine yfg 74 68 [8, 68] rfl (decide_eq_false hc23) (ok_move · (.tmp rfl)) ?_
      refine yfg 75 68 [74, 68] rfl (decide_eq_false hc23) (ok_ibin · (.tmp rfl) (.int _ _) rfl) ?_
      obtain ⟨p28, hp28, h⟩ := bindo h
      refine yfg 76 68 [73, 75, 68] rfl (decide_eq_false hc23) (ok_index_s · tu9 (.tmp rfl) (.tmp rfl) hp28) ?_
      obtain ⟨p29, hp29, h⟩ := bindo h
      refine x_go (f_call_g (dst := some 77) (t := 68) (ts := [76, 68]) rfl (by kernel_rfl) rfl rfl (decide_eq_false hc23) (.func _) (.cons (.tmp rfl) Evs.nil) (fun _ => (HInv.static rollcallref01_Byte.at_ rollcallref01_Byte.body (rollcallref01_Byte.snd  hp29)))) rfl ?_
      try dsimp only [w0, w1, w2, w3]
      refine yfg 78 68 [72, 77, 68] rfl (decide_eq_false hc23) (ok_ibin · (.tmp rfl) (.tmp rfl) rfl) ?_
      refine yf 79 [68, 78] rfl (ok_pick_ff · (.tmp rfl) (decide_eq_false hc23) (.tmp rfl)) ?_
      obtain ⟨p30, hp30, h⟩ := bindo h
      refine yr 80 [62, 63] rfl (ok_indexAddr (s := y7) · tu31 sz4 (.tmp rfl) (.tmp rfl) hp30) ?_
      obtain ⟨p31, hp31, h⟩ := bindo h
      refine x_go (e_op (dst := none) (ts := [80, 79]) rfl (by intro _ _ h; cases h) (by kernel_rfl) (fun _ ho => ok_store_s (v := (.bool (decide (p27 = p29)))) ho sz4 (.tmp rfl) rfl (.tmp rfl) rfl hp31)) rfl ?_
      refine x_rest rfl ?_
      refine hr_region_end ?_
      try dsimp only [w0, w1, w2, w3]
      refine hr_inBlock ?_
      try dsimp only [w0, w1, w2, w3]
      exact J3_snd hrec0 hrec1 h
  · refine q_cond_f rfl (.tmp rfl) (bfalse hc21) ?_
    refine q_skipc rfl ?_
    refine hr_inBlock ?_
    try dsimp only [w0, w1, w2, w3]
    exact J3_snd hrec0 hrec1 h
def L1 (k : Nat) (rec0 : (List UInt8) → (List UInt8) → Sl → Int → HS → Option ((Bool) × HS)) : Nat → (List UInt8) → (List UInt8) → Sl → Int → Sl → Int → HS → Option ((Bool) × HS)
  | 0, _, _, _, _, _, _, _ => none
  | n + 1, y0, y1, y5, y6, y7, y8, S =>
    (if y8 ≤ (List.length y1 : Int) then
    (Option.bind (sat y0 y6) fun p7 =>
    (if (UInt8.toNat p7 : Int) = 42 then
    (Option.bind (HS.idx S y5 y8 1) fun p9 =>
    (Option.bind (HS.ldB S p9) fun p10 =>
    (if p10 = true then
    J2 k (L1 k rec0 n) rec0 y0 y1 y5 y6 y7 y8 y7 y8 true S else
    (if y8 > 0 then
    (Option.bind (HS.idx S y7 (w64 (y8 - 1)) 1) fun p15 =>
    (Option.bind (HS.ldB S p15) fun p16 =>
    J4 k (L1 k rec0 n) rec0 y0 y1 y5 y6 y7 y8 y7 y8 p10 p16 S)) else
    J4 k (L1 k rec0 n) rec0 y0 y1 y5 y6 y7 y8 y7 y8 p10 false S)))) else
    (if y8 > 0 then
    (Option.bind (HS.idx S y5 (w64 (y8 - 1)) 1) fun p19 =>
    (Option.bind (HS.ldB S p19) fun p20 =>
    J5 k (L1 k rec0 n) rec0 y0 y1 y5 y6 y7 y8 p20 S)) else
    J5 k (L1 k rec0 n) rec0 y0 y1 y5 y6 y7 y8 false S))) else
    rec0 y0 y1 y7 (w64 (y6 + 1)) S)
theorem L1_snd {k : Nat} {rec0 : (List UInt8) → (List UInt8) → Sl → Int → HS → Option ((Bool) × HS)} (hrec0 : ∀ ⦃y0 : (List UInt8)⦄ ⦃y1 : (List UInt8)⦄ ⦃y5 : Sl⦄ ⦃y6 : Int⦄ ⦃S : HS⦄ ⦃p : (Bool) × HS⦄ ⦃g2 g3 g4 g7 g8 g9 g10 g11 g12 g13 g14 g15 g16 g17 g18 g19 g20 g21 g22 g23 g24 g25 g26 g27 g28 g29 g30 g31 g32 g33 g34 g35 g36 g37 g38 g39 g40 g41 g42 g43 g44 g45 g46 g47 g48 g49 g50 g51 g52 g53 g54 g55 g56 g57 g58 g59 g60 g61 g62 g63 g64 g65 g66 g67 g68 g69 g70 g71 g72 g73 g74 g75 g76 g77 g78 g79 g80 g81 g82 g83 g84 g85 g86 : HV⦄, rec0 y0 y1 y5 y6 S = some p → HRun Tryd.prog base W0 β0 11 none [.inLoop c11, .inBlock 0, .code c46] ⟨[(.str y0), (.str y1), g2, g3, g4, (Sl.hv y5), (.int .i64 y6), g7, g8, g9, g10, g11, g12, g13, g14, g15, g16, g17, g18, g19, g20, g21, g22, g23, g24, g25, g26, g27, g28, g29, g30, g31, g32, g33, g34, g35, g36, g37, g38, g39, g40, g41, g42, g43, g44, g45, g46, g47, g48, g49, g50, g51, g52, g53, g54, g55, g56, g57, g58, g59, g60, g61, g62, g63, g64, g65, g66, g67, g68, g69, g70, g71, g72, g73, g74, g75, g76, g77, g78, g79, g80, g81, g82, g83, g84, g85, g86], []⟩ S (fun v S1 => v = (.bool p.1) ∧ S1 = p.2)) : ∀ {n : Nat} ⦃y0 : (List UInt8)⦄ ⦃y1 : (List UInt8)⦄ ⦃y5 : Sl⦄ ⦃y6 : Int⦄ ⦃y7 : Sl⦄ ⦃y8 : Int⦄ ⦃S : HS⦄ ⦃p : (Bool) × HS⦄ ⦃g2 g3 g4 g9 g10 g11 g12 g13 g14 g15 g16 g17 g18 g19 g20 g21 g22 g23 g24 g25 g26 g27 g28 g29 g30 g31 g32 g33 g34 g35 g36 g37 g38 g39 g40 g41 g42 g43 g44 g45 g46 g47 g48 g49 g50 g51 g52 g53 g54 g55 g56 g57 g58 g59 g60 g61 g62 g63 g64 g65 g66 g67 g68 g69 g70 g71 g72 g73 g74 g75 g76 g77 g78 g79 g80 g81 g82 g83 g84 g85 g86 : HV⦄, L1 k rec0 n y0 y1 y5 y6 y7 y8 S = some p → HRun Tryd.prog base W0 β0 11 none [.inLoop c26, .inBlock 2, .code c44, .inBlock 1, .code c45, .inLoop c11, .inBlock 0, .code c46] ⟨[(.str y0), (.str y1), g2, g3, g4, (Sl.hv y5), (.int .i64 y6), (Sl.hv y7), (.int .i64 y8), g9, g10, g11, g12, g13, g14, g15, g16, g17, g18, g19, g20, g21, g22, g23, g24, g25, g26, g27, g28, g29, g30, g31, g32, g33, g34, g35, g36, g37, g38, g39, g40, g41, g42, g43, g44, g45, g46, g47, g48, g49, g50, g51, g52, g53, g54, g55, g56, g57, g58, g59, g60, g61, g62, g63, g64, g65, g66, g67, g68, g69, g70, g71, g72, g73, g74, g75, g76, g77, g78, g79, g80, g81, g82, g83, g84, g85, g86], []⟩ S (fun v S1 => v = (.bool p.1) ∧ S1 = p.2) := by
  intro n
  induction n with
  | zero => intro _ _ _ _ _ _ _ _ _ _ _ _ _ _ _ _ _ _ _ _ _ _ _ _ _ _ _ _ _ _ _ _ _ _ _ _ _ _ _ _ _ _ _ _ _ _ _ _ _ _ _ _ _ _ _ _ _ _ _ _ _ _ _ _ _ _ _ _ _ _ _ _ _ _ _ _ _ _ _ _ _ _ _ _ _ _ _ _ _ h; cases h
  | succ n ih =>
    intro y0 y1 y5 y6 y7 y8 S p g2 g3 g4 g9 g10 g11 g12 g13 g14 g15 g16 g17 g18 g19 g20 g21 g22 g23 g24 g25 g26 g27 g28 g29 g30 g31 g32 g33 g34 g35 g36 g37 g38 g39 g40 g41 g42 g43 g44 g45 g46 g47 g48 g49 g50 g51 g52 g53 g54 g55 g56 g57 g58 g59 g60 g61 g62 g63 g64 g65 g66 g67 g68 g69 g70 g71 g72 g73 g74 g75 g76 g77 g78 g79 g80 g81 g82 g83 g84 g85 g86 h
    simp only [L1] at h
    refine hr_inLoop ?_
    refine q_seq rfl ?_
    refine q_seq rfl ?_
    refine q_region rfl rfl ?_
    refine qS 25 rfl (ok_move · (.tmp rfl)) ?_
    refine qS 26 rfl (ok_move · (.tmp rfl)) ?_
    refine qS 27 rfl (ok_len_str · rfl tu9 (.tmp rfl)) ?_
    refine qS 28 rfl (ok_ibin · (.tmp rfl) (.tmp rfl) rfl) ?_
    refine hr_region_end ?_
    try dsimp only [w0, w1, w2, w3]
    rcases ifc h with ⟨hc6, h⟩ | ⟨hc6, h⟩
    · refine q_cond_t rfl (.tmp rfl) (decide_eq_true hc6) ?_
      refine q_skipc rfl ?_
      refine q_seq rfl ?_
      refine q_block rfl ?_
      refine q_seq rfl ?_
      refine q_region rfl rfl ?_
      refine qS 31 rfl (ok_move · (.tmp rfl)) ?_
      refine qS 32 rfl (ok_move · (.tmp rfl)) ?_
      obtain ⟨p7, hp7, h⟩ := bindo h
      refine qS 33 rfl (ok_index_s · tu9 (.tmp rfl) (.tmp rfl) hp7) ?_
      refine qS 34 rfl (ok_ibin · (.tmp rfl) (.int _ _) rfl) ?_
      refine hr_region_end ?_
      try dsimp only [w0, w1, w2, w3]
      rcases ifc h with ⟨hc8, h⟩ | ⟨hc8, h⟩
      · refine q_cond_t rfl (.tmp rfl) (decide_eq_true hc8) ?_
        refine q_region rfl rfl ?_
        refine qS 35 rfl (ok_move · (.tmp rfl)) ?_
        refine qS 36 rfl (ok_move · (.tmp rfl)) ?_
        refine qS 37 rfl (ok_move · (.tmp rfl)) ?_
        refine qS 38 rfl (ok_move · (.tmp rfl)) ?_
        try dsimp only [w0, w1, w2, w3]
        obtain ⟨p9, hp9, h⟩ := bindo h
        refine qS 39 rfl (ok_indexAddr (s := y5) · tu31 sz4 (.tmp rfl) (.tmp rfl) hp9) ?_
        obtain ⟨p10, hp10, h⟩ := bindo h
        refine qS 40 rfl (ok_load_s · sc4 (.tmp rfl) rfl (ldB_out hp10)) ?_
        refine qS 41 rfl (ok_move · (.tmp rfl)) ?_
        rcases ifc h with ⟨hc11, h⟩ | ⟨hc11, h⟩
        · refine q_skip (dst := some 42) (t := 41) rfl rfl rfl hc11 ?_
          try dsimp only [w0, w1, w2, w3]
          refine q_skip (dst := some 43) (t := 41) rfl rfl rfl hc11 ?_
          refine q_skip (dst := some 44) (t := 41) rfl rfl rfl hc11 ?_
          refine q_skip_u (dst := some 45) (t := 44) rfl rfl rfl ?_
          refine q_skip_u (dst := some 46) (t := 44) rfl rfl rfl ?_
          try dsimp only [w0, w1, w2, w3]
          refine q_skip_u (dst := some 47) (t := 44) rfl rfl rfl ?_
          refine q_skip_u (dst := some 48) (t := 44) rfl rfl rfl ?_
          refine q_skip_u (dst := some 49) (t := 44) rfl rfl rfl ?_
          refine q_skip (dst := some 50) (t := 41) rfl rfl rfl hc11 ?_
          try dsimp only [w0, w1, w2, w3]
          refine qS 51 rfl (ok_pick_tt · (.tmp rfl) hc11 (.bool _)) ?_
          try dsimp only [w0, w1, w2, w3]
          exact J2_snd ih hrec0 h
        · refine qG 41 42 rfl (bfalse hc11) (ok_move · (.tmp rfl)) ?_
          try dsimp only [w0, w1, w2, w3]
          refine qG 41 43 rfl (bfalse hc11) (ok_ibin · (.tmp rfl) (.int _ _) rfl) ?_
          refine qG 41 44 rfl (bfalse hc11) (ok_move · (.tmp rfl)) ?_
          rcases ifc h with ⟨hc14, h⟩ | ⟨hc14, h⟩
          · refine qG 44 45 rfl (decide_eq_true hc14) (ok_move · (.tmp rfl)) ?_
            refine qG 44 46 rfl (decide_eq_true hc14) (ok_move · (.tmp rfl)) ?_
            try dsimp only [w0, w1, w2, w3]
            refine qG 44 47 rfl (decide_eq_true hc14) (ok_ibin · (.tmp rfl) (.int _ _) rfl) ?_
            obtain ⟨p15, hp15, h⟩ := bindo h
            refine qG 44 48 rfl (decide_eq_true hc14) (ok_indexAddr (s := y7) · tu31 sz4 (.tmp rfl) (.tmp rfl) hp15) ?_
            obtain ⟨p16, hp16, h⟩ := bindo h
            refine qG 44 49 rfl (decide_eq_true hc14) (ok_load_s · sc4 (.tmp rfl) rfl (ldB_out hp16)) ?_
            refine qG 41 50 rfl (bfalse hc11) (ok_pick_tt · (.tmp rfl) (decide_eq_true hc14) (.tmp rfl)) ?_
            try dsimp only [w0, w1, w2, w3]
            try dsimp only [w0, w1, w2, w3]
            exact J4_snd ih hrec0 h
          · refine q_skip (dst := some 45) (t := 44) rfl rfl rfl (decide_eq_false hc14) ?_
            refine q_skip (dst := some 46) (t := 44) rfl rfl rfl (decide_eq_false hc14) ?_
            try dsimp only [w0, w1, w2, w3]
            refine q_skip (dst := some 47) (t := 44) rfl rfl rfl (decide_eq_false hc14) ?_
            refine q_skip (dst := some 48) (t := 44) rfl rfl rfl (decide_eq_false hc14) ?_
            refine q_skip (dst := some 49) (t := 44) rfl rfl rfl (decide_eq_false hc14) ?_
            refine qG 41 50 rfl (bfalse hc11) (ok_pick_ff · (.tmp rfl) (decide_eq_false hc14) (.bool _)) ?_
            try dsimp only [w0, w1, w2, w3]
            try dsimp only [w0, w1, w2, w3]
            exact J4_snd ih hrec0 h
      · refine q_cond_f rfl (.tmp rfl) (decide_eq_false hc8) ?_
        refine q_seq rfl ?_
        refine q_region rfl rfl ?_
        refine qS 53 rfl (ok_move · (.tmp rfl)) ?_
        refine qS 54 rfl (ok_ibin · (.tmp rfl) (.int _ _) rfl) ?_
        refine qS 55 rfl (ok_move · (.tmp rfl)) ?_
        rcases ifc h with ⟨hc18, h⟩ | ⟨hc18, h⟩
        · refine qG 55 56 rfl (decide_eq_true hc18) (ok_move · (.tmp rfl)) ?_
          try dsimp only [w0, w1, w2, w3]
          refine qG 55 57 rfl (decide_eq_true hc18) (ok_move · (.tmp rfl)) ?_
          refine qG 55 58 rfl (decide_eq_true hc18) (ok_ibin · (.tmp rfl) (.int _ _) rfl) ?_
          obtain ⟨p19, hp19, h⟩ := bindo h
          refine qG 55 59 rfl (decide_eq_true hc18) (ok_indexAddr (s := y5) · tu31 sz4 (.tmp rfl) (.tmp rfl) hp19) ?_
          obtain ⟨p20, hp20, h⟩ := bindo h
          refine qG 55 60 rfl (decide_eq_true hc18) (ok_load_s · sc4 (.tmp rfl) rfl (ldB_out hp20)) ?_
          try dsimp only [w0, w1, w2, w3]
          refine qS 61 rfl (ok_pick_tt · (.tmp rfl) (decide_eq_true hc18) (.tmp rfl)) ?_
          refine hr_region_end ?_
          try dsimp only [w0, w1, w2, w3]
          try dsimp only [w0, w1, w2, w3]
          exact J5_snd ih hrec0 h
        · refine q_skip (dst := some 56) (t := 55) rfl rfl rfl (decide_eq_false hc18) ?_
          try dsimp only [w0, w1, w2, w3]
          refine q_skip (dst := some 57) (t := 55) rfl rfl rfl (decide_eq_false hc18) ?_
          refine q_skip (dst := some 58) (t := 55) rfl rfl rfl (decide_eq_false hc18) ?_
          refine q_skip (dst := some 59) (t := 55) rfl rfl rfl (decide_eq_false hc18) ?_
          refine q_skip (dst := some 60) (t := 55) rfl rfl rfl (decide_eq_false hc18) ?_
          try dsimp only [w0, w1, w2, w3]
          refine qS 61 rfl (ok_pick_ff · (.tmp rfl) (decide_eq_false hc18) (.bool _)) ?_
          refine hr_region_end ?_
          try dsimp only [w0, w1, w2, w3]
          try dsimp only [w0, w1, w2, w3]
          exact J5_snd ih hrec0 h
    · refine q_cond_f rfl (.tmp rfl) (decide_eq_false hc6) ?_
      refine q_exit rfl rfl ?_
      refine q_region rfl rfl ?_
      refine qS 81 rfl (ok_move · (.tmp rfl)) ?_
      refine qS 5 rfl (ok_assign · (.tmp rfl)) ?_
      refine hr_region_end ?_
      try dsimp only [w0, w1, w2, w3]
      refine hr_inBlock ?_
      refine q_region rfl rfl ?_
      refine qS 19 rfl (ok_move · (.tmp rfl)) ?_
      refine qS 20 rfl (ok_ibin · (.tmp rfl) (.int _ _) rfl) ?_
      refine qS 6 rfl (ok_assign · (.tmp rfl)) ?_
      refine hr_region_end ?_
      try dsimp only [w0, w1, w2, w3]
      try dsimp only [w0, w1, w2, w3]
      exact hrec0 h
def L0 (k : Nat) : Nat → (List UInt8) → (List UInt8) → Sl → Int → HS → Option ((Bool) × HS)
  | 0, _, _, _, _, _ => none
  | n + 1, y0, y1, y5, y6, S =>
    (if y6 < (List.length y0 : Int) then
    (Option.bind (HS.make S (w64 ((List.length y1 : Int) + 1)) (w64 ((List.length y1 : Int) + 1)) [(.bool false)]) fun p5 =>
    L1 k (L0 k n) k y0 y1 y5 y6 (p5.1) 0 (p5.2)) else
    (Option.bind (HS.idx S y5 (List.length y1 : Int) 1) fun p32 =>
    (Option.bind (HS.ldB S p32) fun p33 =>
    some (p33, S))))
theorem L0_snd {k : Nat}  : ∀ {n : Nat} ⦃y0 : (List UInt8)⦄ ⦃y1 : (List UInt8)⦄ ⦃y5 : Sl⦄ ⦃y6 : Int⦄ ⦃S : HS⦄ ⦃p : (Bool) × HS⦄ ⦃g2 g3 g4 g7 g8 g9 g10 g11 g12 g13 g14 g15 g16 g17 g18 g19 g20 g21 g22 g23 g24 g25 g26 g27 g28 g29 g30 g31 g32 g33 g34 g35 g36 g37 g38 g39 g40 g41 g42 g43 g44 g45 g46 g47 g48 g49 g50 g51 g52 g53 g54 g55 g56 g57 g58 g59 g60 g61 g62 g63 g64 g65 g66 g67 g68 g69 g70 g71 g72 g73 g74 g75 g76 g77 g78 g79 g80 g81 g82 g83 g84 g85 g86 : HV⦄, L0 k n y0 y1 y5 y6 S = some p → HRun Tryd.prog base W0 β0 11 none [.inLoop c11, .inBlock 0, .code c46] ⟨[(.str y0), (.str y1), g2, g3, g4, (Sl.hv y5), (.int .i64 y6), g7, g8, g9, g10, g11, g12, g13, g14, g15, g16, g17, g18, g19, g20, g21, g22, g23, g24, g25, g26, g27, g28, g29, g30, g31, g32, g33, g34, g35, g36, g37, g38, g39, g40, g41, g42, g43, g44, g45, g46, g47, g48, g49, g50, g51, g52, g53, g54, g55, g56, g57, g58, g59, g60, g61, g62, g63, g64, g65, g66, g67, g68, g69, g70, g71, g72, g73, g74, g75, g76, g77, g78, g79, g80, g81, g82, g83, g84, g85, g86], []⟩ S (fun v S1 => v = (.bool p.1) ∧ S1 = p.2) := by
  intro n
  induction n with
  | zero => intro _ _ _ _ _ _ _ _ _ _ _ _ _ _ _ _ _ _ _ _ _ _ _ _ _ _ _ _ _ _ _ _ _ _ _ _ _ _ _ _ _ _ _ _ _ _ _ _ _ _ _ _ _ _ _ _ _ _ _ _ _ _ _ _ _ _ _ _ _ _ _ _ _ _ _ _ _ _ _ _ _ _ _ _ _ _ _ _ _ h; cases h
  | succ n ih =>
    intro y0 y1 y5 y6 S p g2 g3 g4 g7 g8 g9 g10 g11 g12 g13 g14 g15 g16 g17 g18 g19 g20 g21 g22 g23 g24 g25 g26 g27 g28 g29 g30 g31 g32 g33 g34 g35 g36 g37 g38 g39 g40 g41 g42 g43 g44 g45 g46 g47 g48 g49 g50 g51 g52 g53 g54 g55 g56 g57 g58 g59 g60 g61 g62 g63 g64 g65 g66 g67 g68 g69 g70 g71 g72 g73 g74 g75 g76 g77 g78 g79 g80 g81 g82 g83 g84 g85 g86 h
    simp only [L0] at h
    refine hr_inLoop ?_
    refine q_seq rfl ?_
    refine q_seq rfl ?_
    refine q_region rfl rfl ?_
    refine qS 15 rfl (ok_move · (.tmp rfl)) ?_
    refine qS 16 rfl (ok_move · (.tmp rfl)) ?_
    refine qS 17 rfl (ok_len_str · rfl tu9 (.tmp rfl)) ?_
    refine qS 18 rfl (ok_ibin · (.tmp rfl) (.tmp rfl) rfl) ?_
    refine hr_region_end ?_
    try dsimp only [w0, w1, w2, w3]
    rcases ifc h with ⟨hc4, h⟩ | ⟨hc4, h⟩
    · refine q_cond_t rfl (.tmp rfl) (decide_eq_true hc4) ?_
      refine q_skipc rfl ?_
      refine q_seq rfl ?_
      refine q_block rfl ?_
      refine q_seq rfl ?_
      refine q_region rfl rfl ?_
      refine qS 21 rfl (ok_move · (.tmp rfl)) ?_
      refine qS 22 rfl (ok_len_str · rfl tu9 (.tmp rfl)) ?_
      refine qS 23 rfl (ok_ibin · (.tmp rfl) (.int _ _) rfl) ?_
      obtain ⟨p5, hp5, h⟩ := bindo h
      refine qS 24 rfl (ok_make el31 · (.tmp rfl) (.tmp rfl) hp5) ?_
      try dsimp only [w0, w1, w2, w3]
      refine qS 7 rfl (ok_assign · (.tmp rfl)) ?_
      refine hr_region_end ?_
      try dsimp only [w0, w1, w2, w3]
      refine q_seq rfl ?_
      refine q_seq rfl ?_
      refine q_region rfl rfl ?_
      refine qS 8 rfl (ok_assign · (.int _ _)) ?_
      refine hr_region_end ?_
      try dsimp only [w0, w1, w2, w3]
      refine q_block rfl ?_
      refine q_loop rfl ?_
      try dsimp only [w0, w1, w2, w3]
      exact L1_snd ih h
    · refine q_cond_f rfl (.tmp rfl) (decide_eq_false hc4) ?_
      refine q_exit rfl rfl ?_
      refine q_seq rfl ?_
      refine q_region rfl rfl ?_
      refine qS 82 rfl (ok_move · (.tmp rfl)) ?_
      refine qS 83 rfl (ok_move · (.tmp rfl)) ?_
      refine qS 84 rfl (ok_len_str · rfl tu9 (.tmp rfl)) ?_
      obtain ⟨p32, hp32, h⟩ := bindo h
      refine qS 85 rfl (ok_indexAddr (s := y5) · tu31 sz4 (.tmp rfl) (.tmp rfl) hp32) ?_
      try dsimp only [w0, w1, w2, w3]
      obtain ⟨p33, hp33, h⟩ := bindo h
      refine qS 86 rfl (ok_load_s · sc4 (.tmp rfl) rfl (ldB_out hp33)) ?_
      refine qS 4 rfl (ok_assign · (.tmp rfl)) ?_
      refine hr_region_end ?_
      try dsimp only [w0, w1, w2, w3]
      cases h
      exact q_ret rfl at_.at_ rfl (res1 rfl rfl) ⟨rfl, rfl⟩
def f (k : Nat) (x0 : (List UInt8)) (x1 : (List UInt8)) (S : HS) : Option ((Bool) × HS) :=
  (Option.bind (HS.make S (w64 ((List.length x1 : Int) + 1)) (w64 ((List.length x1 : Int) + 1)) [(.bool false)]) fun p1 =>
  (Option.bind (HS.idx (p1.2) (p1.1) 0 1) fun p2 =>
  (Option.bind (HS.sets (p1.2) p2 [(.bool true)]) fun p3 =>
  L0 k k x0 x1 (p1.1) 0 p3)))
theorem snd {k : Nat} {x0 : (List UInt8)} {x1 : (List UInt8)} {S : HS}  {p : (Bool) × HS} (h : f k x0 x1 S = some p) : HCall Tryd.prog base W0 β0 11 [(.str x0), (.str x1)] S (fun v S1 => v = (.bool p.1) ∧ S1 = p.2) := by
  unfold f at h
  refine HCall.of_run at_.at_ body ?_
  show HRun Tryd.prog base W0 β0 11 none [.code c0] ⟨[(.str x0), (.str x1), τ, τ, τ, τ, τ, τ, τ, τ, τ, τ, τ, τ, τ, τ, τ, τ, τ, τ, τ, τ, τ, τ, τ, τ, τ, τ, τ, τ, τ, τ, τ, τ, τ, τ, τ, τ, τ, τ, τ, τ, τ, τ, τ, τ, τ, τ, τ, τ, τ, τ, τ, τ, τ, τ, τ, τ, τ, τ, τ, τ, τ, τ, τ, τ, τ, τ, τ, τ, τ, τ, τ, τ, τ, τ, τ, τ, τ, τ, τ, τ, τ, τ, τ, τ, τ], []⟩ S _
  refine q_seq rfl ?_
  refine q_region rfl rfl ?_
  refine qS 4 rfl (ok_assign · (.bool _)) ?_
  refine hr_region_end ?_
  try dsimp only [w0, w1, w2, w3]
  refine q_seq rfl ?_
  refine q_region rfl rfl ?_
  refine qS 9 rfl (ok_move · (.tmp rfl)) ?_
  refine qS 10 rfl (ok_len_str · rfl tu9 (.tmp rfl)) ?_
  refine qS 11 rfl (ok_ibin · (.tmp rfl) (.int _ _) rfl) ?_
  obtain ⟨p1, hp1, h⟩ := bindo h
  refine qS 12 rfl (ok_make el31 · (.tmp rfl) (.tmp rfl) hp1) ?_
  try dsimp only [w0, w1, w2, w3]
  refine qS 5 rfl (ok_assign · (.tmp rfl)) ?_
  refine hr_region_end ?_
  try dsimp only [w0, w1, w2, w3]
  refine q_seq rfl ?_
  refine q_region rfl rfl ?_
  refine qS 13 rfl (ok_move · (.tmp rfl)) ?_
  obtain ⟨p2, hp2, h⟩ := bindo h
  refine qS 14 rfl (ok_indexAddr (s := (p1.1)) · tu31 sz4 (.tmp rfl) (.int _ _) hp2) ?_
  obtain ⟨p3, hp3, h⟩ := bindo h
  refine qN rfl (ok_store_s (v := (.bool true)) · sz4 (.tmp rfl) rfl (.bool _) rfl hp3) ?_
  refine hr_region_end ?_
  try dsimp only [w0, w1, w2, w3]
  refine q_seq rfl ?_
  refine q_seq rfl ?_
  refine q_region rfl rfl ?_
  refine qS 6 rfl (ok_assign · (.int _ _)) ?_
  refine hr_region_end ?_
  try dsimp only [w0, w1, w2, w3]
  refine q_block rfl ?_
  refine q_loop rfl ?_
  try dsimp only [w0, w1, w2, w3]
  exact L0_snd  h
end
end rollcallref04_Match
namespace rollcalllaw04_GlobHits
theorem at_ : FnAt Tryd.prog 3 Tryd.f3 := ⟨Tryd.func3, by kernel_rfl⟩
noncomputable def d0 := (Tryd.f3.body).getD .skip
noncomputable def r1 := kR (kA d0)
noncomputable def r4 := kR (kA (kA (kB d0)))
noncomputable def r7 := kR (kA (kA (kB (kA (kB d0)))))
noncomputable def r12 := kR (kA (kA (kB (kB d0))))
noncomputable def r15 := kR (kA (kA (kB (kA (kB (kB d0))))))
noncomputable def r19 := kR (kA (kB (kB (kB d0))))
noncomputable def c18 : Code := .seq (.region 5 r19 false) .ret
noncomputable def c13 : Code := .cond (.tmp 28) (.seq (.region 4 r15 false) .ret) .skip
noncomputable def c0 : Code := .seq (.region 0 r1 false) (.seq (.seq (.region 1 r4 false) (.cond (.tmp 10) (.seq (.region 2 r7 false) .ret) .skip)) (.seq (.seq (.region 3 r12 false) c13) c18))
theorem body : Tryd.f3.body = some c0 := by kernel_rfl
section
variable {base : Nat} {W0 : World} {β0 : Bt}
def J2 (k : Nat) (y0 : (List UInt8)) (y1 : (List UInt8)) (y2 : (List UInt8)) (y3 : (List UInt8)) (y28 : Bool) (S : HS) : Option ((Bool) × HS) :=
  (if y28 = true then
  some (true, S) else
  (Option.bind (glob_Hits.f k y0 y1 y2 y3 S) fun p7 =>
  (Option.bind (rollcallref04_Complete.f k y0) fun p8 =>
  (if List.length y1 + List.length ([33] : List UInt8) ≤ 9223372036854775807 then
  (if List.length (y1 ++ ([33] : List UInt8)) + List.length y2 ≤ 9223372036854775807 then
  (if List.length ((y1 ++ ([33] : List UInt8)) ++ y2) + List.length ([64] : List UInt8) ≤ 9223372036854775807 then
  (if List.length (((y1 ++ ([33] : List UInt8)) ++ y2) ++ ([64] : List UInt8)) + List.length y3 ≤ 9223372036854775807 then
  (Option.bind (rollcallref04_Match.f k p8 ((((y1 ++ ([33] : List UInt8)) ++ y2) ++ ([64] : List UInt8)) ++ y3) p7.2) fun p13 =>
  some ((p7.1 == p13.1), p13.2)) else none) else none) else none) else none))))
theorem J2_snd {k : Nat}  {y0 : (List UInt8)} {y1 : (List UInt8)} {y2 : (List UInt8)} {y3 : (List UInt8)} {y28 : Bool} {S : HS} {p : (Bool) × HS} {g4 g5 g6 g7 g8 g9 g10 g11 g12 g13 g14 g15 g16 g17 g18 g19 g20 g21 g22 g23 g24 g25 g26 g27 g29 g30 g31 g32 g33 g34 g35 g36 g37 g38 g39 g40 g41 g42 g43 g44 : HV} (h : J2 k y0 y1 y2 y3 y28 S = some p) : HRun Tryd.prog base W0 β0 3 none [.code c13, .code c18] ⟨[(.str y0), (.str y1), (.str y2), (.str y3), g4, g5, g6, g7, g8, g9, g10, g11, g12, g13, g14, g15, g16, g17, g18, g19, g20, g21, g22, g23, g24, g25, g26, g27, (.bool y28), g29, g30, g31, g32, g33, g34, g35, g36, g37, g38, g39, g40, g41, g42, g43, g44], []⟩ S (fun v S1 => v = (.bool p.1) ∧ S1 = p.2) := by
  unfold J2 at h
  rcases ifc h with ⟨hc6, h⟩ | ⟨hc6, h⟩
  · refine q_cond_t rfl (.tmp rfl) hc6 ?_
    refine q_seq rfl ?_
    refine q_region rfl rfl ?_
    refine qS 8 rfl (ok_assign · (.bool _)) ?_
    refine hr_region_end ?_
    try dsimp only [w0, w1, w2, w3]
    cases h
    exact q_ret rfl at_.at_ rfl (res1 rfl rfl) ⟨rfl, rfl⟩
  · refine q_cond_f rfl (.tmp rfl) (bfalse hc6) ?_
    refine q_skipc rfl ?_
    refine q_seq rfl ?_
    refine q_region rfl rfl ?_
    refine qS 29 rfl (ok_move · (.tmp rfl)) ?_
    refine qS 30 rfl (ok_move · (.tmp rfl)) ?_
    refine qS 31 rfl (ok_move · (.tmp rfl)) ?_
    refine qS 32 rfl (ok_move · (.tmp rfl)) ?_
    try dsimp only [w0, w1, w2, w3]
    obtain ⟨p7, hp7, h⟩ := bindo h
    refine q_call (dst := some 33) rfl (.func _) (.cons (.tmp rfl) (.cons (.tmp rfl) (.cons (.tmp rfl) (.cons (.tmp rfl) Evs.nil)))) (HInv.static glob_Hits.at_ glob_Hits.body (glob_Hits.snd  hp7)) ?_
    rintro _ _ ⟨rfl, rfl⟩
    refine qS 34 rfl (ok_move · (.tmp rfl)) ?_
    obtain ⟨p8, hp8, h⟩ := bindo h
    refine q_call (dst := some 35) rfl (.func _) (.cons (.tmp rfl) Evs.nil) (HInv.static rollcallref04_Complete.at_ rollcallref04_Complete.body (rollcallref04_Complete.snd  hp8)) ?_
    rintro _ _ ⟨rfl, rfl⟩
    refine qS 36 rfl (ok_move · (.tmp rfl)) ?_
    try dsimp only [w0, w1, w2, w3]
    obtain ⟨hg9, h⟩ := gd h
    refine qS 37 rfl (ok_sadd · (.tmp rfl) (.str _) hg9) ?_
    refine qS 38 rfl (ok_move · (.tmp rfl)) ?_
    obtain ⟨hg10, h⟩ := gd h
    refine qS 39 rfl (ok_sadd · (.tmp rfl) (.tmp rfl) hg10) ?_
    obtain ⟨hg11, h⟩ := gd h
    refine qS 40 rfl (ok_sadd · (.tmp rfl) (.str _) hg11) ?_
    try dsimp only [w0, w1, w2, w3]
    refine qS 41 rfl (ok_move · (.tmp rfl)) ?_
    obtain ⟨hg12, h⟩ := gd h
    refine qS 42 rfl (ok_sadd · (.tmp rfl) (.tmp rfl) hg12) ?_
    obtain ⟨p13, hp13, h⟩ := bindo h
    refine q_call (dst := some 43) rfl (.func _) (.cons (.tmp rfl) (.cons (.tmp rfl) Evs.nil)) (HInv.static rollcallref04_Match.at_ rollcallref04_Match.body (rollcallref04_Match.snd  hp13)) ?_
    rintro _ _ ⟨rfl, rfl⟩
    refine qS 44 rfl (ok_beq · tu4 (.inl ⟨rfl, rfl⟩) (.tmp rfl) (.tmp rfl)) ?_
    try dsimp only [w0, w1, w2, w3]
    refine qS 8 rfl (ok_assign · (.tmp rfl)) ?_
    refine hr_region_end ?_
    try dsimp only [w0, w1, w2, w3]
    cases h
    exact q_ret rfl at_.at_ rfl (res1 rfl rfl) ⟨rfl, rfl⟩
def J1 (k : Nat) (y0 : (List UInt8)) (y1 : (List UInt8)) (y2 : (List UInt8)) (y3 : (List UInt8)) (y23 : Bool) (S : HS) : Option ((Bool) × HS) :=
  (if y23 = true then
  J2 k y0 y1 y2 y3 true S else
  J2 k y0 y1 y2 y3 (decide ((List.length y3 : Int) > 40)) S)
theorem J1_snd {k : Nat}  {y0 : (List UInt8)} {y1 : (List UInt8)} {y2 : (List UInt8)} {y3 : (List UInt8)} {y23 : Bool} {S : HS} {p : (Bool) × HS} {g4 g5 g6 g7 g8 g9 g10 g11 g12 g13 g14 g15 g16 g17 g18 g19 g20 g21 g22 g24 g25 g26 g27 g28 g29 g30 g31 g32 g33 g34 g35 g36 g37 g38 g39 g40 g41 g42 g43 g44 : HV} (h : J1 k y0 y1 y2 y3 y23 S = some p) : HRun Tryd.prog base W0 β0 3 none [.inRegion r12 [13, 14, 15, 16, 17], .code c13, .code c18] ⟨[(.str y0), (.str y1), (.str y2), (.str y3), g4, g5, g6, g7, g8, g9, g10, g11, g12, g13, g14, g15, g16, g17, g18, g19, g20, g21, g22, (.bool y23), g24, g25, g26, g27, g28, g29, g30, g31, g32, g33, g34, g35, g36, g37, g38, g39, g40, g41, g42, g43, g44], []⟩ S (fun v S1 => v = (.bool p.1) ∧ S1 = p.2) := by
  unfold J1 at h
  refine qS 24 rfl (ok_move · (.tmp rfl)) ?_
  rcases ifc h with ⟨hc5, h⟩ | ⟨hc5, h⟩
  · refine q_skip (dst := some 25) (t := 24) rfl rfl rfl hc5 ?_
    refine q_skip (dst := some 26) (t := 24) rfl rfl rfl hc5 ?_
    try dsimp only [w0, w1, w2, w3]
    refine q_skip (dst := some 27) (t := 24) rfl rfl rfl hc5 ?_
    refine qS 28 rfl (ok_pick_tt · (.tmp rfl) hc5 (.bool _)) ?_
    refine hr_region_end ?_
    try dsimp only [w0, w1, w2, w3]
    try dsimp only [w0, w1, w2, w3]
    exact J2_snd  h
  · refine qG 24 25 rfl (bfalse hc5) (ok_move · (.tmp rfl)) ?_
    refine qG 24 26 rfl (bfalse hc5) (ok_len_str · rfl tu9 (.tmp rfl)) ?_
    try dsimp only [w0, w1, w2, w3]
    refine qG 24 27 rfl (bfalse hc5) (ok_ibin · (.tmp rfl) (.int _ _) rfl) ?_
    refine qS 28 rfl (ok_pick_ff · (.tmp rfl) (bfalse hc5) (.tmp rfl)) ?_
    refine hr_region_end ?_
    try dsimp only [w0, w1, w2, w3]
    try dsimp only [w0, w1, w2, w3]
    exact J2_snd  h
def J0 (k : Nat) (y0 : (List UInt8)) (y1 : (List UInt8)) (y2 : (List UInt8)) (y3 : (List UInt8)) (y18 : Bool) (S : HS) : Option ((Bool) × HS) :=
  (if y18 = true then
  J1 k y0 y1 y2 y3 true S else
  J1 k y0 y1 y2 y3 (decide ((List.length y2 : Int) > 40)) S)
theorem J0_snd {k : Nat}  {y0 : (List UInt8)} {y1 : (List UInt8)} {y2 : (List UInt8)} {y3 : (List UInt8)} {y18 : Bool} {S : HS} {p : (Bool) × HS} {g4 g5 g6 g7 g8 g9 g10 g11 g12 g13 g14 g15 g16 g17 g19 g20 g21 g22 g23 g24 g25 g26 g27 g28 g29 g30 g31 g32 g33 g34 g35 g36 g37 g38 g39 g40 g41 g42 g43 g44 : HV} (h : J0 k y0 y1 y2 y3 y18 S = some p) : HRun Tryd.prog base W0 β0 3 none [.inRegion r12 [8, 9, 10, 11, 12, 13, 14, 15, 16, 17], .code c13, .code c18] ⟨[(.str y0), (.str y1), (.str y2), (.str y3), g4, g5, g6, g7, g8, g9, g10, g11, g12, g13, g14, g15, g16, g17, (.bool y18), g19, g20, g21, g22, g23, g24, g25, g26, g27, g28, g29, g30, g31, g32, g33, g34, g35, g36, g37, g38, g39, g40, g41, g42, g43, g44], []⟩ S (fun v S1 => v = (.bool p.1) ∧ S1 = p.2) := by
  unfold J0 at h
  refine qS 19 rfl (ok_move · (.tmp rfl)) ?_
  rcases ifc h with ⟨hc4, h⟩ | ⟨hc4, h⟩
  · refine q_skip (dst := some 20) (t := 19) rfl rfl rfl hc4 ?_
    refine q_skip (dst := some 21) (t := 19) rfl rfl rfl hc4 ?_
    refine q_skip (dst := some 22) (t := 19) rfl rfl rfl hc4 ?_
    try dsimp only [w0, w1, w2, w3]
    refine qS 23 rfl (ok_pick_tt · (.tmp rfl) hc4 (.bool _)) ?_
    try dsimp only [w0, w1, w2, w3]
    exact J1_snd  h
  · refine qG 19 20 rfl (bfalse hc4) (ok_move · (.tmp rfl)) ?_
    refine qG 19 21 rfl (bfalse hc4) (ok_len_str · rfl tu9 (.tmp rfl)) ?_
    refine qG 19 22 rfl (bfalse hc4) (ok_ibin · (.tmp rfl) (.int _ _) rfl) ?_
    try dsimp only [w0, w1, w2, w3]
    refine qS 23 rfl (ok_pick_ff · (.tmp rfl) (bfalse hc4) (.tmp rfl)) ?_
    try dsimp only [w0, w1, w2, w3]
    exact J1_snd  h
def f (k : Nat) (x0 : (List UInt8)) (x1 : (List UInt8)) (x2 : (List UInt8)) (x3 : (List UInt8)) (S : HS) : Option ((Bool) × HS) :=
  (Option.bind (rollcalllaw04_awake.f k S) fun p1 =>
  (if (!p1.1) = true then
  some (false, p1.2) else
  (if (List.length x0 : Int) > 40 then
  J0 k x0 x1 x2 x3 true p1.2 else
  J0 k x0 x1 x2 x3 (decide ((List.length x1 : Int) > 40)) p1.2)))
theorem snd {k : Nat} {x0 : (List UInt8)} {x1 : (List UInt8)} {x2 : (List UInt8)} {x3 : (List UInt8)} {S : HS}  {p : (Bool) × HS} (h : f k x0 x1 x2 x3 S = some p) : HCall Tryd.prog base W0 β0 3 [(.str x0), (.str x1), (.str x2), (.str x3)] S (fun v S1 => v = (.bool p.1) ∧ S1 = p.2) := by
  unfold f at h
  refine HCall.of_run at_.at_ body ?_
  show HRun Tryd.prog base W0 β0 3 none [.code c0] ⟨[(.str x0), (.str x1), (.str x2), (.str x3), τ, τ, τ, τ, τ, τ, τ, τ, τ, τ, τ, τ, τ, τ, τ, τ, τ, τ, τ, τ, τ, τ, τ, τ, τ, τ, τ, τ, τ, τ, τ, τ, τ, τ, τ, τ, τ, τ, τ, τ, τ], []⟩ S _
  refine q_seq rfl ?_
  refine q_region rfl rfl ?_
  refine qS 8 rfl (ok_assign · (.bool _)) ?_
  refine hr_region_end ?_
  try dsimp only [w0, w1, w2, w3]
  refine q_seq rfl ?_
  refine q_seq rfl ?_
  refine q_region rfl rfl ?_
  obtain ⟨p1, hp1, h⟩ := bindo h
  refine q_call (dst := some 9) rfl (.func _) Evs.nil (HInv.static rollcalllaw04_awake.at_ rollcalllaw04_awake.body (rollcalllaw04_awake.snd  hp1)) ?_
  rintro _ _ ⟨rfl, rfl⟩
  refine qS 10 rfl (ok_not · (.tmp rfl)) ?_
  refine hr_region_end ?_
  try dsimp only [w0, w1, w2, w3]
  rcases ifc h with ⟨hc2, h⟩ | ⟨hc2, h⟩
  · refine q_cond_t rfl (.tmp rfl) hc2 ?_
    refine q_seq rfl ?_
    refine q_region rfl rfl ?_
    refine qS 8 rfl (ok_assign · (.bool _)) ?_
    refine hr_region_end ?_
    try dsimp only [w0, w1, w2, w3]
    cases h
    exact q_ret rfl at_.at_ rfl (res1 rfl rfl) ⟨rfl, rfl⟩
  · refine q_cond_f rfl (.tmp rfl) (bfalse hc2) ?_
    refine q_skipc rfl ?_
    refine q_seq rfl ?_
    refine q_seq rfl ?_
    refine q_region rfl rfl ?_
    refine qS 11 rfl (ok_move · (.tmp rfl)) ?_
    refine qS 12 rfl (ok_len_str · rfl tu9 (.tmp rfl)) ?_
    refine qS 13 rfl (ok_ibin · (.tmp rfl) (.int _ _) rfl) ?_
    refine qS 14 rfl (ok_move · (.tmp rfl)) ?_
    try dsimp only [w0, w1, w2, w3]
    rcases ifc h with ⟨hc3, h⟩ | ⟨hc3, h⟩
    · refine q_skip (dst := some 15) (t := 14) rfl rfl rfl (decide_eq_true hc3) ?_
      refine q_skip (dst := some 16) (t := 14) rfl rfl rfl (decide_eq_true hc3) ?_
      refine q_skip (dst := some 17) (t := 14) rfl rfl rfl (decide_eq_true hc3) ?_
      refine qS 18 rfl (ok_pick_tt · (.tmp rfl) (decide_eq_true hc3) (.bool _)) ?_
      try dsimp only [w0, w1, w2, w3]
      try dsimp only [w0, w1, w2, w3]
      exact J0_snd  h
    · refine qG 14 15 rfl (decide_eq_false hc3) (ok_move · (.tmp rfl)) ?_
      refine qG 14 16 rfl (decide_eq_false hc3) (ok_len_str · rfl tu9 (.tmp rfl)) ?_
      refine qG 14 17 rfl (decide_eq_false hc3) (ok_ibin · (.tmp rfl) (.int _ _) rfl) ?_
      refine qS 18 rfl (ok_pick_ff · (.tmp rfl) (decide_eq_false hc3) (.tmp rfl)) ?_
      try dsimp only [w0, w1, w2, w3]
      try dsimp only [w0, w1, w2, w3]
      exact J0_snd  h
end
end rollcalllaw04_GlobHits
namespace glob_Any
theorem at_ : FnAt Tryd.prog 14 Tryd.f14 := ⟨Tryd.func14, by kernel_rfl⟩
noncomputable def d0 := (Tryd.f14.body).getD .skip
noncomputable def r1 := kR (kA d0)
noncomputable def r4 := kR (kA (kA (kB d0)))
noncomputable def d5 := kB (kA (kB d0))
noncomputable def r8 := kR (kA (kA (kA d5)))
noncomputable def d9 := kB (kA (kA d5))
noncomputable def r16 := kR (kA (kA (kA (kB d9))))
noncomputable def r18 := kR (kA (kB (kA (kA (kB d9)))))
noncomputable def r21 := kR (kA (kA (kB (kB (kA (kA (kB d9)))))))
noncomputable def r24 := kR (kB (kB d9))
noncomputable def r26 := kR (kA (kB (kB d0)))
noncomputable def c25 : Code := .seq (.region 7 r26 false) .ret
noncomputable def c7 : Code := .seq (.region 2 r8 false) (.seq (.cond (.tmp 10) .skip (.exit 0)) (.seq (.block 1 (.seq (.region 3 r16 false) (.seq (.region 4 r18 false) (.cond (.tmp 15) (.seq (.region 5 r21 false) .ret) .skip)))) (.region 6 r24 false)))
noncomputable def c0 : Code := .seq (.region 0 r1 false) (.seq (.seq (.region 1 r4 false) (.block 0 (.loop c7))) c25)
theorem body : Tryd.f14.body = some c0 := by kernel_rfl
section
variable {base : Nat} {W0 : World} {β0 : Bt}
def L0 (k : Nat) : Nat → (List UInt8) → Sl → Int → Int → HS → Option ((Bool) × HS)
  | 0, _, _, _, _, _ => none
  | n + 1, y0, y7, y8, y9, S =>
    (if y9 < y8 then
    (Option.bind (HS.idx S y7 y9 1) fun p2 =>
    (Option.bind (HS.ldS S p2) fun p3 =>
    (Option.bind (glob_Match.f k p3 y0 S) fun p4 =>
    (if p4.1 = true then
    some (true, p4.2) else
    (L0 k n) y0 y7 y8 (w64 (y9 + 1)) p4.2)))) else
    some (false, S))
theorem L0_snd {k : Nat}  : ∀ {n : Nat} ⦃y0 : (List UInt8)⦄ ⦃y7 : Sl⦄ ⦃y8 : Int⦄ ⦃y9 : Int⦄ ⦃S : HS⦄ ⦃p : (Bool) × HS⦄ ⦃g1 g2 g3 g4 g5 g6 g10 g11 g12 g13 g14 g15 g16 : HV⦄, L0 k n y0 y7 y8 y9 S = some p → HRun Tryd.prog base W0 β0 14 none [.inLoop c7, .inBlock 0, .code c25] ⟨[(.str y0), g1, g2, g3, g4, g5, g6, (Sl.hv y7), (.int .i64 y8), (.int .i64 y9), g10, g11, g12, g13, g14, g15, g16], []⟩ S (fun v S1 => v = (.bool p.1) ∧ S1 = p.2) := by
  intro n
  induction n with
  | zero => intro _ _ _ _ _ _ _ _ _ _ _ _ _ _ _ _ _ _ _ h; cases h
  | succ n ih =>
    intro y0 y7 y8 y9 S p g1 g2 g3 g4 g5 g6 g10 g11 g12 g13 g14 g15 g16 h
    simp only [L0] at h
    refine hr_inLoop ?_
    refine q_seq rfl ?_
    refine q_region rfl rfl ?_
    refine qS 10 rfl (ok_ibin · (.tmp rfl) (.tmp rfl) rfl) ?_
    refine hr_region_end ?_
    try dsimp only [w0, w1, w2, w3]
    refine q_seq rfl ?_
    rcases ifc h with ⟨hc1, h⟩ | ⟨hc1, h⟩
    · refine q_cond_t rfl (.tmp rfl) (decide_eq_true hc1) ?_
      refine q_skipc rfl ?_
      refine q_seq rfl ?_
      refine q_block rfl ?_
      refine q_seq rfl ?_
      refine q_region rfl rfl ?_
      obtain ⟨p2, hp2, h⟩ := bindo h
      refine qS 11 rfl (ok_indexAddr (s := y7) · tu36 sz9 (.tmp rfl) (.tmp rfl) hp2) ?_
      obtain ⟨p3, hp3, h⟩ := bindo h
      refine qS 12 rfl (ok_load_s · sc9 (.tmp rfl) rfl (ldS_out hp3)) ?_
      refine qS 6 rfl (ok_assign · (.tmp rfl)) ?_
      refine hr_region_end ?_
      try dsimp only [w0, w1, w2, w3]
      refine q_seq rfl ?_
      refine q_region rfl rfl ?_
      refine qS 13 rfl (ok_move · (.tmp rfl)) ?_
      refine qS 14 rfl (ok_move · (.tmp rfl)) ?_
      obtain ⟨p4, hp4, h⟩ := bindo h
      refine q_call (dst := some 15) rfl (.func _) (.cons (.tmp rfl) (.cons (.tmp rfl) Evs.nil)) (HInv.static glob_Match.at_ glob_Match.body (glob_Match.snd  hp4)) ?_
      rintro _ _ ⟨rfl, rfl⟩
      refine hr_region_end ?_
      try dsimp only [w0, w1, w2, w3]
      rcases ifc h with ⟨hc5, h⟩ | ⟨hc5, h⟩
      · refine q_cond_t rfl (.tmp rfl) hc5 ?_
        refine q_seq rfl ?_
        refine q_region rfl rfl ?_
        refine qS 4 rfl (ok_assign · (.bool _)) ?_
        refine hr_region_end ?_
        try dsimp only [w0, w1, w2, w3]
        cases h
        exact q_ret rfl at_.at_ rfl (res1 rfl rfl) ⟨rfl, rfl⟩
      · refine q_cond_f rfl (.tmp rfl) (bfalse hc5) ?_
        refine q_skipc rfl ?_
        refine hr_inBlock ?_
        refine q_region rfl rfl ?_
        refine qS 16 rfl (ok_ibin · (.tmp rfl) (.int _ _) rfl) ?_
        refine qS 9 rfl (ok_move · (.tmp rfl)) ?_
        refine hr_region_end ?_
        try dsimp only [w0, w1, w2, w3]
        try dsimp only [w0, w1, w2, w3]
        exact ih h
    · refine q_cond_f rfl (.tmp rfl) (decide_eq_false hc1) ?_
      refine q_exit rfl rfl ?_
      refine q_seq rfl ?_
      refine q_region rfl rfl ?_
      refine qS 4 rfl (ok_assign · (.bool _)) ?_
      refine hr_region_end ?_
      try dsimp only [w0, w1, w2, w3]
      cases h
      exact q_ret rfl at_.at_ rfl (res1 rfl rfl) ⟨rfl, rfl⟩
def f (k : Nat) (x0 : (List UInt8)) (x1 : Sl) (S : HS) : Option ((Bool) × HS) :=
  L0 k k x0 x1 (Sl.len x1 : Int) 0 S
theorem snd {k : Nat} {x0 : (List UInt8)} {x1 : Sl} {S : HS}  {p : (Bool) × HS} (h : f k x0 x1 S = some p) : HCall Tryd.prog base W0 β0 14 [(.str x0), (Sl.hv x1)] S (fun v S1 => v = (.bool p.1) ∧ S1 = p.2) := by
  unfold f at h
  refine HCall.of_run at_.at_ body ?_
  show HRun Tryd.prog base W0 β0 14 none [.code c0] ⟨[(.str x0), (Sl.hv x1), τ, τ, τ, τ, τ, τ, τ, τ, τ, τ, τ, τ, τ, τ, τ], []⟩ S _
  refine q_seq rfl ?_
  refine q_region rfl rfl ?_
  refine qS 4 rfl (ok_assign · (.bool _)) ?_
  refine hr_region_end ?_
  try dsimp only [w0, w1, w2, w3]
  refine q_seq rfl ?_
  refine q_seq rfl ?_
  refine q_region rfl rfl ?_
  refine qS 7 rfl (ok_move · (.tmp rfl)) ?_
  refine qS 8 rfl (ok_len_sl (q := Sl.a x1) (n := Sl.len x1) (z := Sl.cap x1) · rfl tu36 (.tmp rfl)) ?_
  refine qS 9 rfl (ok_move · (.int _ _)) ?_
  refine hr_region_end ?_
  try dsimp only [w0, w1, w2, w3]
  refine q_block rfl ?_
  refine q_loop rfl ?_
  try dsimp only [w0, w1, w2, w3]
  exact L0_snd  h
end
end glob_Any
namespace rollcalllaw04_GlobMatches
theorem at_ : FnAt Tryd.prog 4 Tryd.f4 := ⟨Tryd.func4, by kernel_rfl⟩
noncomputable def d0 := (Tryd.f4.body).getD .skip
noncomputable def r1 := kR (kA d0)
noncomputable def r4 := kR (kA (kA (kB d0)))
noncomputable def r7 := kR (kA (kA (kB (kA (kB d0)))))
noncomputable def r12 := kR (kA (kA (kB (kB d0))))
noncomputable def r15 := kR (kA (kA (kB (kA (kB (kB d0))))))
noncomputable def r19 := kR (kA (kB (kB (kB d0))))
noncomputable def r21 := kR (kA (kB (kB (kB (kB d0)))))
noncomputable def c22 : Code := .ret
noncomputable def c18 : Code := .seq (.region 5 r19 false) (.seq (.region 6 r21 false) c22)
noncomputable def c13 : Code := .cond (.tmp 15) (.seq (.region 4 r15 false) .ret) .skip
noncomputable def c0 : Code := .seq (.region 0 r1 false) (.seq (.seq (.region 1 r4 false) (.cond (.tmp 7) (.seq (.region 2 r7 false) .ret) .skip)) (.seq (.seq (.region 3 r12 false) c13) c18))
theorem body : Tryd.f4.body = some c0 := by kernel_rfl
section
variable {base : Nat} {W0 : World} {β0 : Bt}
def J3 (k : Nat) (y42 : Bool) (S : HS) : Option ((Bool) × HS) :=
  some (y42, S)
theorem J3_snd {k : Nat}  {y42 : Bool} {S : HS} {p : (Bool) × HS} {g0 g1 g2 g3 g4 g5 g6 g7 g8 g9 g10 g11 g12 g13 g14 g15 g16 g17 g18 g19 g20 g21 g22 g23 g24 g25 g26 g27 g28 g29 g30 g31 g32 g33 g34 g35 g36 g37 g38 g39 g40 g41 : HV} (h : J3 k y42 S = some p) : HRun Tryd.prog base W0 β0 4 none [.inRegion r21 [24], .code c22] ⟨[g0, g1, g2, g3, g4, g5, g6, g7, g8, g9, g10, g11, g12, g13, g14, g15, g16, g17, g18, g19, g20, g21, g22, g23, g24, g25, g26, g27, g28, g29, g30, g31, g32, g33, g34, g35, g36, g37, g38, g39, g40, g41, (.bool y42)], []⟩ S (fun v S1 => v = (.bool p.1) ∧ S1 = p.2) := by
  unfold J3 at h
  refine qS 4 rfl (ok_assign · (.tmp rfl)) ?_
  refine hr_region_end ?_
  try dsimp only [w0, w1, w2, w3]
  cases h
  exact q_ret rfl at_.at_ rfl (res1 rfl rfl) ⟨rfl, rfl⟩
def J2 (k : Nat) (y0 : (List UInt8)) (y1 : (List UInt8)) (y36 : Bool) (S : HS) : Option ((Bool) × HS) :=
  (if y36 = true then
  (letv (HS.lit S [[(.str ([] : List UInt8))], [(.str y0)], [(.str ([42] : List UInt8))]] 1) fun p13 =>
  (Option.bind (glob_Any.f k y1 (p13.1) (p13.2)) fun p14 =>
  J3 k p14.1 p14.2)) else
  J3 k false S)
theorem J2_snd {k : Nat}  {y0 : (List UInt8)} {y1 : (List UInt8)} {y36 : Bool} {S : HS} {p : (Bool) × HS} {g2 g3 g4 g5 g6 g7 g8 g9 g10 g11 g12 g13 g14 g15 g16 g17 g18 g19 g20 g21 g22 g23 g24 g25 g26 g27 g28 g29 g30 g31 g32 g33 g34 g35 g37 g38 g39 g40 g41 g42 : HV} (h : J2 k y0 y1 y36 S = some p) : HRun Tryd.prog base W0 β0 4 none [.inRegion r21 [18, 19, 20, 21, 22, 23, 24], .code c22] ⟨[(.str y0), (.str y1), g2, g3, g4, g5, g6, g7, g8, g9, g10, g11, g12, g13, g14, g15, g16, g17, g18, g19, g20, g21, g22, g23, g24, g25, g26, g27, g28, g29, g30, g31, g32, g33, g34, g35, (.bool y36), g37, g38, g39, g40, g41, g42], []⟩ S (fun v S1 => v = (.bool p.1) ∧ S1 = p.2) := by
  unfold J2 at h
  refine qS 37 rfl (ok_move · (.tmp rfl)) ?_
  rcases ifc h with ⟨hc12, h⟩ | ⟨hc12, h⟩
  · refine qG 37 38 rfl hc12 (ok_move · (.tmp rfl)) ?_
    try dsimp only [w0, w1, w2, w3]
    refine qG 37 39 rfl hc12 (ok_move · (.tmp rfl)) ?_
    obtain ⟨p13, hp13, h⟩ := leto h
    refine qG 37 40 rfl hc12 (ok_buildSlice_s (xs := [(.const (.string ⟨#[]⟩)), (.tmp 39), (.const (.string ⟨#[42]⟩))]) el36 · rfl rfl (by decide) (.cons (.str _) (.cons (.tmp rfl) (.cons (.str _) Evs.nil))) rfl rfl hp13) ?_
    obtain ⟨p14, hp14, h⟩ := bindo h
    refine q_call_g (t := 37) (dst := some 41) rfl rfl rfl hc12 (.func _) (.cons (.tmp rfl) (.cons (.tmp rfl) Evs.nil)) (HInv.static glob_Any.at_ glob_Any.body (glob_Any.snd  hp14)) ?_
    rintro _ _ ⟨rfl, rfl⟩
    refine qS 42 rfl (ok_pick_tt · (.tmp rfl) hc12 (.tmp rfl)) ?_
    try dsimp only [w0, w1, w2, w3]
    try dsimp only [w0, w1, w2, w3]
    exact J3_snd  h
  · refine q_skip (dst := some 38) (t := 37) rfl rfl rfl (bfalse hc12) ?_
    try dsimp only [w0, w1, w2, w3]
    refine q_skip (dst := some 39) (t := 37) rfl rfl rfl (bfalse hc12) ?_
    refine q_skip (dst := some 40) (t := 37) rfl rfl rfl (bfalse hc12) ?_
    refine q_skip (dst := some 41) (t := 37) rfl rfl rfl (bfalse hc12) ?_
    refine qS 42 rfl (ok_pick_ff · (.tmp rfl) (bfalse hc12) (.bool _)) ?_
    try dsimp only [w0, w1, w2, w3]
    try dsimp only [w0, w1, w2, w3]
    exact J3_snd  h
def J1 (k : Nat) (y0 : (List UInt8)) (y1 : (List UInt8)) (y31 : Bool) (S : HS) : Option ((Bool) × HS) :=
  (if y31 = true then
  (Option.bind (glob_Any.f k y1 Sl.nil S) fun p11 =>
  J2 k y0 y1 (!p11.1) p11.2) else
  J2 k y0 y1 false S)
theorem J1_snd {k : Nat}  {y0 : (List UInt8)} {y1 : (List UInt8)} {y31 : Bool} {S : HS} {p : (Bool) × HS} {g2 g3 g4 g5 g6 g7 g8 g9 g10 g11 g12 g13 g14 g15 g16 g17 g18 g19 g20 g21 g22 g23 g24 g25 g26 g27 g28 g29 g30 g32 g33 g34 g35 g36 g37 g38 g39 g40 g41 g42 : HV} (h : J1 k y0 y1 y31 S = some p) : HRun Tryd.prog base W0 β0 4 none [.inRegion r21 [13, 14, 15, 16, 17, 18, 19, 20, 21, 22, 23, 24], .code c22] ⟨[(.str y0), (.str y1), g2, g3, g4, g5, g6, g7, g8, g9, g10, g11, g12, g13, g14, g15, g16, g17, g18, g19, g20, g21, g22, g23, g24, g25, g26, g27, g28, g29, g30, (.bool y31), g32, g33, g34, g35, g36, g37, g38, g39, g40, g41, g42], []⟩ S (fun v S1 => v = (.bool p.1) ∧ S1 = p.2) := by
  unfold J1 at h
  refine qS 32 rfl (ok_move · (.tmp rfl)) ?_
  rcases ifc h with ⟨hc10, h⟩ | ⟨hc10, h⟩
  · refine qG 32 33 rfl hc10 (ok_move · (.tmp rfl)) ?_
    obtain ⟨p11, hp11, h⟩ := bindo h
    refine q_call_g (t := 32) (dst := some 34) rfl rfl rfl hc10 (.func _) (.cons (.tmp rfl) (.cons (.const fun _ => .slNil none) Evs.nil)) (HInv.static glob_Any.at_ glob_Any.body (glob_Any.snd  hp11)) ?_
    rintro _ _ ⟨rfl, rfl⟩
    try dsimp only [w0, w1, w2, w3]
    refine qG 32 35 rfl hc10 (ok_not · (.tmp rfl)) ?_
    refine qS 36 rfl (ok_pick_tt · (.tmp rfl) hc10 (.tmp rfl)) ?_
    try dsimp only [w0, w1, w2, w3]
    exact J2_snd  h
  · refine q_skip (dst := some 33) (t := 32) rfl rfl rfl (bfalse hc10) ?_
    refine q_skip (dst := some 34) (t := 32) rfl rfl rfl (bfalse hc10) ?_
    try dsimp only [w0, w1, w2, w3]
    refine q_skip (dst := some 35) (t := 32) rfl rfl rfl (bfalse hc10) ?_
    refine qS 36 rfl (ok_pick_ff · (.tmp rfl) (bfalse hc10) (.bool _)) ?_
    try dsimp only [w0, w1, w2, w3]
    exact J2_snd  h
def J0 (k : Nat) (y0 : (List UInt8)) (y1 : (List UInt8)) (y15 : Bool) (S : HS) : Option ((Bool) × HS) :=
  (if y15 = true then
  some (true, S) else
  (Option.bind (rollcallref04_Match.f k y0 y1 S) fun p5 =>
  (Option.bind (glob_Match.f k y0 y1 p5.2) fun p6 =>
  (if (p6.1 == p5.1) = true then
  (letv (HS.lit p6.2 [[(.str y0)]] 1) fun p8 =>
  (Option.bind (glob_Any.f k y1 (p8.1) (p8.2)) fun p9 =>
  J1 k y0 y1 (p9.1 == p5.1) p9.2)) else
  J1 k y0 y1 false p6.2))))
theorem J0_snd {k : Nat}  {y0 : (List UInt8)} {y1 : (List UInt8)} {y15 : Bool} {S : HS} {p : (Bool) × HS} {g2 g3 g4 g5 g6 g7 g8 g9 g10 g11 g12 g13 g14 g16 g17 g18 g19 g20 g21 g22 g23 g24 g25 g26 g27 g28 g29 g30 g31 g32 g33 g34 g35 g36 g37 g38 g39 g40 g41 g42 : HV} (h : J0 k y0 y1 y15 S = some p) : HRun Tryd.prog base W0 β0 4 none [.code c13, .code c18] ⟨[(.str y0), (.str y1), g2, g3, g4, g5, g6, g7, g8, g9, g10, g11, g12, g13, g14, (.bool y15), g16, g17, g18, g19, g20, g21, g22, g23, g24, g25, g26, g27, g28, g29, g30, g31, g32, g33, g34, g35, g36, g37, g38, g39, g40, g41, g42], []⟩ S (fun v S1 => v = (.bool p.1) ∧ S1 = p.2) := by
  unfold J0 at h
  rcases ifc h with ⟨hc4, h⟩ | ⟨hc4, h⟩
  · refine q_cond_t rfl (.tmp rfl) hc4 ?_
    refine q_seq rfl ?_
    refine q_region rfl rfl ?_
    refine qS 4 rfl (ok_assign · (.bool _)) ?_
    refine hr_region_end ?_
    try dsimp only [w0, w1, w2, w3]
    cases h
    exact q_ret rfl at_.at_ rfl (res1 rfl rfl) ⟨rfl, rfl⟩
  · refine q_cond_f rfl (.tmp rfl) (bfalse hc4) ?_
    refine q_skipc rfl ?_
    refine q_seq rfl ?_
    refine q_region rfl rfl ?_
    refine qS 16 rfl (ok_move · (.tmp rfl)) ?_
    refine qS 17 rfl (ok_move · (.tmp rfl)) ?_
    obtain ⟨p5, hp5, h⟩ := bindo h
    refine q_call (dst := some 18) rfl (.func _) (.cons (.tmp rfl) (.cons (.tmp rfl) Evs.nil)) (HInv.static rollcallref04_Match.at_ rollcallref04_Match.body (rollcallref04_Match.snd  hp5)) ?_
    rintro _ _ ⟨rfl, rfl⟩
    refine qS 5 rfl (ok_assign · (.tmp rfl)) ?_
    refine hr_region_end ?_
    try dsimp only [w0, w1, w2, w3]
    refine q_seq rfl ?_
    refine q_region rfl rfl ?_
    refine qS 19 rfl (ok_move · (.tmp rfl)) ?_
    refine qS 20 rfl (ok_move · (.tmp rfl)) ?_
    obtain ⟨p6, hp6, h⟩ := bindo h
    refine q_call (dst := some 21) rfl (.func _) (.cons (.tmp rfl) (.cons (.tmp rfl) Evs.nil)) (HInv.static glob_Match.at_ glob_Match.body (glob_Match.snd  hp6)) ?_
    rintro _ _ ⟨rfl, rfl⟩
    refine qS 22 rfl (ok_move · (.tmp rfl)) ?_
    try dsimp only [w0, w1, w2, w3]
    refine qS 23 rfl (ok_beq · tu4 (.inl ⟨rfl, rfl⟩) (.tmp rfl) (.tmp rfl)) ?_
    refine qS 24 rfl (ok_move · (.tmp rfl)) ?_
    rcases ifc h with ⟨hc7, h⟩ | ⟨hc7, h⟩
    · refine qG 24 25 rfl hc7 (ok_move · (.tmp rfl)) ?_
      refine qG 24 26 rfl hc7 (ok_move · (.tmp rfl)) ?_
      try dsimp only [w0, w1, w2, w3]
      obtain ⟨p8, hp8, h⟩ := leto h
      refine qG 24 27 rfl hc7 (ok_buildSlice_s (xs := [(.tmp 26)]) el36 · rfl rfl (by decide) (.cons (.tmp rfl) Evs.nil) rfl rfl hp8) ?_
      obtain ⟨p9, hp9, h⟩ := bindo h
      refine q_call_g (t := 24) (dst := some 28) rfl rfl rfl hc7 (.func _) (.cons (.tmp rfl) (.cons (.tmp rfl) Evs.nil)) (HInv.static glob_Any.at_ glob_Any.body (glob_Any.snd  hp9)) ?_
      rintro _ _ ⟨rfl, rfl⟩
      refine qG 24 29 rfl hc7 (ok_move · (.tmp rfl)) ?_
      refine qG 24 30 rfl hc7 (ok_beq · tu4 (.inl ⟨rfl, rfl⟩) (.tmp rfl) (.tmp rfl)) ?_
      try dsimp only [w0, w1, w2, w3]
      refine qS 31 rfl (ok_pick_tt · (.tmp rfl) hc7 (.tmp rfl)) ?_
      try dsimp only [w0, w1, w2, w3]
      exact J1_snd  h
    · refine q_skip (dst := some 25) (t := 24) rfl rfl rfl (bfalse hc7) ?_
      refine q_skip (dst := some 26) (t := 24) rfl rfl rfl (bfalse hc7) ?_
      try dsimp only [w0, w1, w2, w3]
      refine q_skip (dst := some 27) (t := 24) rfl rfl rfl (bfalse hc7) ?_
      refine q_skip (dst := some 28) (t := 24) rfl rfl rfl (bfalse hc7) ?_
      refine q_skip (dst := some 29) (t := 24) rfl rfl rfl (bfalse hc7) ?_
      refine q_skip (dst := some 30) (t := 24) rfl rfl rfl (bfalse hc7) ?_
      try dsimp only [w0, w1, w2, w3]
      refine qS 31 rfl (ok_pick_ff · (.tmp rfl) (bfalse hc7) (.bool _)) ?_
      try dsimp only [w0, w1, w2, w3]
      exact J1_snd  h
def f (k : Nat) (x0 : (List UInt8)) (x1 : (List UInt8)) (S : HS) : Option ((Bool) × HS) :=
  (Option.bind (rollcalllaw04_awake.f k S) fun p1 =>
  (if (!p1.1) = true then
  some (false, p1.2) else
  (if (List.length x0 : Int) > 60 then
  J0 k x0 x1 true p1.2 else
  J0 k x0 x1 (decide ((List.length x1 : Int) > 60)) p1.2)))
theorem snd {k : Nat} {x0 : (List UInt8)} {x1 : (List UInt8)} {S : HS}  {p : (Bool) × HS} (h : f k x0 x1 S = some p) : HCall Tryd.prog base W0 β0 4 [(.str x0), (.str x1)] S (fun v S1 => v = (.bool p.1) ∧ S1 = p.2) := by
  unfold f at h
  refine HCall.of_run at_.at_ body ?_
  show HRun Tryd.prog base W0 β0 4 none [.code c0] ⟨[(.str x0), (.str x1), τ, τ, τ, τ, τ, τ, τ, τ, τ, τ, τ, τ, τ, τ, τ, τ, τ, τ, τ, τ, τ, τ, τ, τ, τ, τ, τ, τ, τ, τ, τ, τ, τ, τ, τ, τ, τ, τ, τ, τ, τ], []⟩ S _
  refine q_seq rfl ?_
  refine q_region rfl rfl ?_
  refine qS 4 rfl (ok_assign · (.bool _)) ?_
  refine hr_region_end ?_
  try dsimp only [w0, w1, w2, w3]
  refine q_seq rfl ?_
  refine q_seq rfl ?_
  refine q_region rfl rfl ?_
  obtain ⟨p1, hp1, h⟩ := bindo h
  refine q_call (dst := some 6) rfl (.func _) Evs.nil (HInv.static rollcalllaw04_awake.at_ rollcalllaw04_awake.body (rollcalllaw04_awake.snd  hp1)) ?_
  rintro _ _ ⟨rfl, rfl⟩
  refine qS 7 rfl (ok_not · (.tmp rfl)) ?_
  refine hr_region_end ?_
  try dsimp only [w0, w1, w2, w3]
  rcases ifc h with ⟨hc2, h⟩ | ⟨hc2, h⟩
  · refine q_cond_t rfl (.tmp rfl) hc2 ?_
    refine q_seq rfl ?_
    refine q_region rfl rfl ?_
    refine qS 4 rfl (ok_assign · (.bool _)) ?_
    refine hr_region_end ?_
    try dsimp only [w0, w1, w2, w3]
    cases h
    exact q_ret rfl at_.at_ rfl (res1 rfl rfl) ⟨rfl, rfl⟩
  · refine q_cond_f rfl (.tmp rfl) (bfalse hc2) ?_
    refine q_skipc rfl ?_
    refine q_seq rfl ?_
    refine q_seq rfl ?_
    refine q_region rfl rfl ?_
    refine qS 8 rfl (ok_move · (.tmp rfl)) ?_
    refine qS 9 rfl (ok_len_str · rfl tu9 (.tmp rfl)) ?_
    refine qS 10 rfl (ok_ibin · (.tmp rfl) (.int _ _) rfl) ?_
    refine qS 11 rfl (ok_move · (.tmp rfl)) ?_
    try dsimp only [w0, w1, w2, w3]
    rcases ifc h with ⟨hc3, h⟩ | ⟨hc3, h⟩
    · refine q_skip (dst := some 12) (t := 11) rfl rfl rfl (decide_eq_true hc3) ?_
      refine q_skip (dst := some 13) (t := 11) rfl rfl rfl (decide_eq_true hc3) ?_
      refine q_skip (dst := some 14) (t := 11) rfl rfl rfl (decide_eq_true hc3) ?_
      refine qS 15 rfl (ok_pick_tt · (.tmp rfl) (decide_eq_true hc3) (.bool _)) ?_
      refine hr_region_end ?_
      try dsimp only [w0, w1, w2, w3]
      try dsimp only [w0, w1, w2, w3]
      exact J0_snd  h
    · refine qG 11 12 rfl (decide_eq_false hc3) (ok_move · (.tmp rfl)) ?_
      refine qG 11 13 rfl (decide_eq_false hc3) (ok_len_str · rfl tu9 (.tmp rfl)) ?_
      refine qG 11 14 rfl (decide_eq_false hc3) (ok_ibin · (.tmp rfl) (.int _ _) rfl) ?_
      refine qS 15 rfl (ok_pick_ff · (.tmp rfl) (decide_eq_false hc3) (.tmp rfl)) ?_
      refine hr_region_end ?_
      try dsimp only [w0, w1, w2, w3]
      try dsimp only [w0, w1, w2, w3]
      exact J0_snd  h
end
end rollcalllaw04_GlobMatches
namespace strings_Index
theorem at_ : FnAt Tryd.prog 50 Tryd.f50 := ⟨Tryd.func50, by kernel_rfl⟩
noncomputable def d0 := (Tryd.f50.body).getD .skip
noncomputable def r1 := kR (kA d0)
noncomputable def r3 := kR (kA (kB d0))
noncomputable def c0 : Code := .seq (.region 0 r1 false) (.seq (.region 1 r3 false) .ret)
theorem body : Tryd.f50.body = some c0 := by kernel_rfl
section
variable {base : Nat} {W0 : World} {β0 : Bt}
def f (k : Nat) (x0 : (List UInt8)) (x1 : (List UInt8)) (S : HS) : Option ((Int) × HS) :=
  (Option.bind (internal_stringslite_Index.f k x0 x1 S) fun p1 =>
  some (p1.1, p1.2))
theorem snd {k : Nat} {x0 : (List UInt8)} {x1 : (List UInt8)} {S : HS}  {p : (Int) × HS} (h : f k x0 x1 S = some p) : HCall Tryd.prog base W0 β0 50 [(.str x0), (.str x1)] S (fun v S1 => v = (.int .i64 p.1) ∧ S1 = p.2) := by
  unfold f at h
  refine HCall.of_run at_.at_ body ?_
  show HRun Tryd.prog base W0 β0 50 none [.code c0] ⟨[(.str x0), (.str x1), τ, τ, τ, τ, τ, τ], []⟩ S _
  refine q_seq rfl ?_
  refine q_region rfl rfl ?_
  refine qS 4 rfl (ok_assign · (.int _ _)) ?_
  refine hr_region_end ?_
  try dsimp only [w0, w1, w2, w3]
  refine q_seq rfl ?_
  refine q_region rfl rfl ?_
  refine qS 5 rfl (ok_move · (.tmp rfl)) ?_
  refine qS 6 rfl (ok_move · (.tmp rfl)) ?_
  obtain ⟨p1, hp1, h⟩ := bindo h
  refine q_call (dst := some 7) rfl (.func _) (.cons (.tmp rfl) (.cons (.tmp rfl) Evs.nil)) (HInv.static internal_stringslite_Index.at_ internal_stringslite_Index.body (internal_stringslite_Index.snd  hp1)) ?_
  rintro _ _ ⟨rfl, rfl⟩
  refine qS 4 rfl (ok_assign · (.tmp rfl)) ?_
  refine hr_region_end ?_
  try dsimp only [w0, w1, w2, w3]
  cases h
  exact q_ret rfl at_.at_ rfl (res1 rfl rfl) ⟨rfl, rfl⟩
end
end strings_Index
namespace strings_Contains
theorem at_ : FnAt Tryd.prog 33 Tryd.f33 := ⟨Tryd.func33, by kernel_rfl⟩
noncomputable def d0 := (Tryd.f33.body).getD .skip
noncomputable def r1 := kR (kA d0)
noncomputable def r3 := kR (kA (kB d0))
noncomputable def c0 : Code := .seq (.region 0 r1 false) (.seq (.region 1 r3 false) .ret)
theorem body : Tryd.f33.body = some c0 := by kernel_rfl
section
variable {base : Nat} {W0 : World} {β0 : Bt}
def f (k : Nat) (x0 : (List UInt8)) (x1 : (List UInt8)) (S : HS) : Option ((Bool) × HS) :=
  (Option.bind (strings_Index.f k x0 x1 S) fun p1 =>
  some ((decide (p1.1 ≥ 0)), p1.2))
theorem snd {k : Nat} {x0 : (List UInt8)} {x1 : (List UInt8)} {S : HS}  {p : (Bool) × HS} (h : f k x0 x1 S = some p) : HCall Tryd.prog base W0 β0 33 [(.str x0), (.str x1)] S (fun v S1 => v = (.bool p.1) ∧ S1 = p.2) := by
  unfold f at h
  refine HCall.of_run at_.at_ body ?_
  show HRun Tryd.prog base W0 β0 33 none [.code c0] ⟨[(.str x0), (.str x1), τ, τ, τ, τ, τ, τ, τ], []⟩ S _
  refine q_seq rfl ?_
  refine q_region rfl rfl ?_
  refine qS 4 rfl (ok_assign · (.bool _)) ?_
  refine hr_region_end ?_
  try dsimp only [w0, w1, w2, w3]
  refine q_seq rfl ?_
  refine q_region rfl rfl ?_
  refine qS 5 rfl (ok_move · (.tmp rfl)) ?_
  refine qS 6 rfl (ok_move · (.tmp rfl)) ?_
  obtain ⟨p1, hp1, h⟩ := bindo h
  refine q_call (dst := some 7) rfl (.func _) (.cons (.tmp rfl) (.cons (.tmp rfl) Evs.nil)) (HInv.static strings_Index.at_ strings_Index.body (strings_Index.snd  hp1)) ?_
  rintro _ _ ⟨rfl, rfl⟩
  refine qS 8 rfl (ok_ibin · (.tmp rfl) (.int _ _) rfl) ?_
  try dsimp only [w0, w1, w2, w3]
  refine qS 4 rfl (ok_assign · (.tmp rfl)) ?_
  refine hr_region_end ?_
  try dsimp only [w0, w1, w2, w3]
  cases h
  exact q_ret rfl at_.at_ rfl (res1 rfl rfl) ⟨rfl, rfl⟩
end
end strings_Contains
namespace glob_Cut
theorem at_ : FnAt Tryd.prog 16 Tryd.f16 := ⟨Tryd.func16, by kernel_rfl⟩
noncomputable def d0 := (Tryd.f16.body).getD .skip
noncomputable def r1 := kR (kA d0)
noncomputable def r3 := kR (kA (kB d0))
noncomputable def r5 := kR (kA (kB (kB d0)))
noncomputable def r8 := kR (kA (kA (kB (kB (kB d0)))))
noncomputable def r11 := kR (kA (kA (kB (kA (kB (kB (kB d0)))))))
noncomputable def r15 := kR (kA (kB (kB (kB (kB d0)))))
noncomputable def c14 : Code := .seq (.region 5 r15 false) .ret
noncomputable def c9 : Code := .cond (.tmp 42) (.seq (.region 4 r11 false) .ret) .skip
noncomputable def c0 : Code := .seq (.region 0 r1 false) (.seq (.region 1 r3 false) (.seq (.region 2 r5 false) (.seq (.seq (.region 3 r8 false) c9) c14)))
theorem body : Tryd.f16.body = some c0 := by kernel_rfl
section
variable {base : Nat} {W0 : World} {β0 : Bt}
def J4 (k : Nat) (y2 : (List UInt8)) (y3 : (List UInt8)) (y4 : (List UInt8)) (y42 : Bool) (S : HS) : Option (((List UInt8) × (List UInt8) × (List UInt8) × Bool) × HS) :=
  (if y42 = true then
  some ((([] : List UInt8), ([] : List UInt8), ([] : List UInt8), false), S) else
  some ((y2, y3, y4, true), S))
theorem J4_snd {k : Nat}  {y2 : (List UInt8)} {y3 : (List UInt8)} {y4 : (List UInt8)} {y42 : Bool} {S : HS} {p : ((List UInt8) × (List UInt8) × (List UInt8) × Bool) × HS} {g0 g1 g5 g6 g7 g8 g9 g10 g11 g12 g13 g14 g15 g16 g17 g18 g19 g20 g21 g22 g23 g24 g25 g26 g27 g28 g29 g30 g31 g32 g33 g34 g35 g36 g37 g38 g39 g40 g41 g43 g44 g45 : HV} (h : J4 k y2 y3 y4 y42 S = some p) : HRun Tryd.prog base W0 β0 16 none [.code c9, .code c14] ⟨[g0, g1, (.str y2), (.str y3), (.str y4), g5, g6, g7, g8, g9, g10, g11, g12, g13, g14, g15, g16, g17, g18, g19, g20, g21, g22, g23, g24, g25, g26, g27, g28, g29, g30, g31, g32, g33, g34, g35, g36, g37, g38, g39, g40, g41, (.bool y42), g43, g44, g45], []⟩ S (fun v S1 => v = (.tup [(.str p.1.1), (.str p.1.2.1), (.str p.1.2.2.1), (.bool p.1.2.2.2)]) ∧ S1 = p.2) := by
  unfold J4 at h
  rcases ifc h with ⟨hc8, h⟩ | ⟨hc8, h⟩
  · refine q_cond_t rfl (.tmp rfl) hc8 ?_
    refine q_seq rfl ?_
    refine q_region rfl rfl ?_
    refine qS 2 rfl (ok_assign · (.str _)) ?_
    refine qS 3 rfl (ok_assign · (.str _)) ?_
    refine qS 4 rfl (ok_assign · (.str _)) ?_
    refine qS 5 rfl (ok_assign · (.bool _)) ?_
    refine hr_region_end ?_
    try dsimp only [w0, w1, w2, w3]
    cases h
    exact q_ret rfl at_.at_ rfl (res4 rfl rfl rfl rfl rfl) ⟨rfl, rfl⟩
  · refine q_cond_f rfl (.tmp rfl) (bfalse hc8) ?_
    refine q_skipc rfl ?_
    refine q_seq rfl ?_
    refine q_region rfl rfl ?_
    refine qS 43 rfl (ok_move · (.tmp rfl)) ?_
    refine qS 44 rfl (ok_move · (.tmp rfl)) ?_
    refine qS 45 rfl (ok_move · (.tmp rfl)) ?_
    refine qS 2 rfl (ok_assign · (.tmp rfl)) ?_
    try dsimp only [w0, w1, w2, w3]
    refine qS 3 rfl (ok_assign · (.tmp rfl)) ?_
    refine qS 4 rfl (ok_assign · (.tmp rfl)) ?_
    refine qS 5 rfl (ok_assign · (.bool _)) ?_
    refine hr_region_end ?_
    try dsimp only [w0, w1, w2, w3]
    cases h
    exact q_ret rfl at_.at_ rfl (res4 rfl rfl rfl rfl rfl) ⟨rfl, rfl⟩
def J3 (k : Nat) (y2 : (List UInt8)) (y3 : (List UInt8)) (y4 : (List UInt8)) (y38 : Bool) (S : HS) : Option (((List UInt8) × (List UInt8) × (List UInt8) × Bool) × HS) :=
  (if y38 = true then
  J4 k y2 y3 y4 true S else
  (Option.bind (strings_Contains.f k y2 ([64] : List UInt8) S) fun p9 =>
  J4 k y2 y3 y4 p9.1 p9.2))
theorem J3_snd {k : Nat}  {y2 : (List UInt8)} {y3 : (List UInt8)} {y4 : (List UInt8)} {y38 : Bool} {S : HS} {p : ((List UInt8) × (List UInt8) × (List UInt8) × Bool) × HS} {g0 g1 g5 g6 g7 g8 g9 g10 g11 g12 g13 g14 g15 g16 g17 g18 g19 g20 g21 g22 g23 g24 g25 g26 g27 g28 g29 g30 g31 g32 g33 g34 g35 g36 g37 g39 g40 g41 g42 g43 g44 g45 : HV} (h : J3 k y2 y3 y4 y38 S = some p) : HRun Tryd.prog base W0 β0 16 none [.inRegion r8 [18, 19, 20, 21], .code c9, .code c14] ⟨[g0, g1, (.str y2), (.str y3), (.str y4), g5, g6, g7, g8, g9, g10, g11, g12, g13, g14, g15, g16, g17, g18, g19, g20, g21, g22, g23, g24, g25, g26, g27, g28, g29, g30, g31, g32, g33, g34, g35, g36, g37, (.bool y38), g39, g40, g41, g42, g43, g44, g45], []⟩ S (fun v S1 => v = (.tup [(.str p.1.1), (.str p.1.2.1), (.str p.1.2.2.1), (.bool p.1.2.2.2)]) ∧ S1 = p.2) := by
  unfold J3 at h
  refine qS 39 rfl (ok_move · (.tmp rfl)) ?_
  rcases ifc h with ⟨hc7, h⟩ | ⟨hc7, h⟩
  · refine q_skip (dst := some 40) (t := 39) rfl rfl rfl hc7 ?_
    try dsimp only [w0, w1, w2, w3]
    refine q_skip (dst := some 41) (t := 39) rfl rfl rfl hc7 ?_
    refine qS 42 rfl (ok_pick_tt · (.tmp rfl) hc7 (.bool _)) ?_
    refine hr_region_end ?_
    try dsimp only [w0, w1, w2, w3]
    try dsimp only [w0, w1, w2, w3]
    exact J4_snd  h
  · refine qG 39 40 rfl (bfalse hc7) (ok_move · (.tmp rfl)) ?_
    try dsimp only [w0, w1, w2, w3]
    obtain ⟨p9, hp9, h⟩ := bindo h
    refine q_call_g (t := 39) (dst := some 41) rfl rfl rfl (bfalse hc7) (.func _) (.cons (.tmp rfl) (.cons (.str _) Evs.nil)) (HInv.static strings_Contains.at_ strings_Contains.body (strings_Contains.snd  hp9)) ?_
    rintro _ _ ⟨rfl, rfl⟩
    refine qS 42 rfl (ok_pick_ff · (.tmp rfl) (bfalse hc7) (.tmp rfl)) ?_
    refine hr_region_end ?_
    try dsimp only [w0, w1, w2, w3]
    try dsimp only [w0, w1, w2, w3]
    exact J4_snd  h
def J2 (k : Nat) (y2 : (List UInt8)) (y3 : (List UInt8)) (y4 : (List UInt8)) (y34 : Bool) (S : HS) : Option (((List UInt8) × (List UInt8) × (List UInt8) × Bool) × HS) :=
  (if y34 = true then
  J3 k y2 y3 y4 true S else
  J3 k y2 y3 y4 (decide (y4 = ([] : List UInt8))) S)
theorem J2_snd {k : Nat}  {y2 : (List UInt8)} {y3 : (List UInt8)} {y4 : (List UInt8)} {y34 : Bool} {S : HS} {p : ((List UInt8) × (List UInt8) × (List UInt8) × Bool) × HS} {g0 g1 g5 g6 g7 g8 g9 g10 g11 g12 g13 g14 g15 g16 g17 g18 g19 g20 g21 g22 g23 g24 g25 g26 g27 g28 g29 g30 g31 g32 g33 g35 g36 g37 g38 g39 g40 g41 g42 g43 g44 g45 : HV} (h : J2 k y2 y3 y4 y34 S = some p) : HRun Tryd.prog base W0 β0 16 none [.inRegion r8 [14, 15, 16, 17, 18, 19, 20, 21], .code c9, .code c14] ⟨[g0, g1, (.str y2), (.str y3), (.str y4), g5, g6, g7, g8, g9, g10, g11, g12, g13, g14, g15, g16, g17, g18, g19, g20, g21, g22, g23, g24, g25, g26, g27, g28, g29, g30, g31, g32, g33, (.bool y34), g35, g36, g37, g38, g39, g40, g41, g42, g43, g44, g45], []⟩ S (fun v S1 => v = (.tup [(.str p.1.1), (.str p.1.2.1), (.str p.1.2.2.1), (.bool p.1.2.2.2)]) ∧ S1 = p.2) := by
  unfold J2 at h
  refine qS 35 rfl (ok_move · (.tmp rfl)) ?_
  rcases ifc h with ⟨hc6, h⟩ | ⟨hc6, h⟩
  · refine q_skip (dst := some 36) (t := 35) rfl rfl rfl hc6 ?_
    try dsimp only [w0, w1, w2, w3]
    refine q_skip (dst := some 37) (t := 35) rfl rfl rfl hc6 ?_
    refine qS 38 rfl (ok_pick_tt · (.tmp rfl) hc6 (.bool _)) ?_
    try dsimp only [w0, w1, w2, w3]
    exact J3_snd  h
  · refine qG 35 36 rfl (bfalse hc6) (ok_move · (.tmp rfl)) ?_
    try dsimp only [w0, w1, w2, w3]
    refine qG 35 37 rfl (bfalse hc6) (ok_sbin · (.tmp rfl) (.str _) rfl) ?_
    refine qS 38 rfl (ok_pick_ff · (.tmp rfl) (bfalse hc6) (.tmp rfl)) ?_
    try dsimp only [w0, w1, w2, w3]
    exact J3_snd  h
def J1 (k : Nat) (y2 : (List UInt8)) (y3 : (List UInt8)) (y4 : (List UInt8)) (y30 : Bool) (S : HS) : Option (((List UInt8) × (List UInt8) × (List UInt8) × Bool) × HS) :=
  (if y30 = true then
  J2 k y2 y3 y4 true S else
  J2 k y2 y3 y4 (decide (y3 = ([] : List UInt8))) S)
theorem J1_snd {k : Nat}  {y2 : (List UInt8)} {y3 : (List UInt8)} {y4 : (List UInt8)} {y30 : Bool} {S : HS} {p : ((List UInt8) × (List UInt8) × (List UInt8) × Bool) × HS} {g0 g1 g5 g6 g7 g8 g9 g10 g11 g12 g13 g14 g15 g16 g17 g18 g19 g20 g21 g22 g23 g24 g25 g26 g27 g28 g29 g31 g32 g33 g34 g35 g36 g37 g38 g39 g40 g41 g42 g43 g44 g45 : HV} (h : J1 k y2 y3 y4 y30 S = some p) : HRun Tryd.prog base W0 β0 16 none [.inRegion r8 [10, 11, 12, 13, 14, 15, 16, 17, 18, 19, 20, 21], .code c9, .code c14] ⟨[g0, g1, (.str y2), (.str y3), (.str y4), g5, g6, g7, g8, g9, g10, g11, g12, g13, g14, g15, g16, g17, g18, g19, g20, g21, g22, g23, g24, g25, g26, g27, g28, g29, (.bool y30), g31, g32, g33, g34, g35, g36, g37, g38, g39, g40, g41, g42, g43, g44, g45], []⟩ S (fun v S1 => v = (.tup [(.str p.1.1), (.str p.1.2.1), (.str p.1.2.2.1), (.bool p.1.2.2.2)]) ∧ S1 = p.2) := by
  unfold J1 at h
  refine qS 31 rfl (ok_move · (.tmp rfl)) ?_
  rcases ifc h with ⟨hc5, h⟩ | ⟨hc5, h⟩
  · refine q_skip (dst := some 32) (t := 31) rfl rfl rfl hc5 ?_
    try dsimp only [w0, w1, w2, w3]
    refine q_skip (dst := some 33) (t := 31) rfl rfl rfl hc5 ?_
    refine qS 34 rfl (ok_pick_tt · (.tmp rfl) hc5 (.bool _)) ?_
    try dsimp only [w0, w1, w2, w3]
    exact J2_snd  h
  · refine qG 31 32 rfl (bfalse hc5) (ok_move · (.tmp rfl)) ?_
    try dsimp only [w0, w1, w2, w3]
    refine qG 31 33 rfl (bfalse hc5) (ok_sbin · (.tmp rfl) (.str _) rfl) ?_
    refine qS 34 rfl (ok_pick_ff · (.tmp rfl) (bfalse hc5) (.tmp rfl)) ?_
    try dsimp only [w0, w1, w2, w3]
    exact J2_snd  h
def J0 (k : Nat) (y2 : (List UInt8)) (y3 : (List UInt8)) (y4 : (List UInt8)) (y26 : Bool) (S : HS) : Option (((List UInt8) × (List UInt8) × (List UInt8) × Bool) × HS) :=
  (if y26 = true then
  J1 k y2 y3 y4 true S else
  J1 k y2 y3 y4 (decide (y2 = ([] : List UInt8))) S)
theorem J0_snd {k : Nat}  {y2 : (List UInt8)} {y3 : (List UInt8)} {y4 : (List UInt8)} {y26 : Bool} {S : HS} {p : ((List UInt8) × (List UInt8) × (List UInt8) × Bool) × HS} {g0 g1 g5 g6 g7 g8 g9 g10 g11 g12 g13 g14 g15 g16 g17 g18 g19 g20 g21 g22 g23 g24 g25 g27 g28 g29 g30 g31 g32 g33 g34 g35 g36 g37 g38 g39 g40 g41 g42 g43 g44 g45 : HV} (h : J0 k y2 y3 y4 y26 S = some p) : HRun Tryd.prog base W0 β0 16 none [.inRegion r8 [6, 7, 8, 9, 10, 11, 12, 13, 14, 15, 16, 17, 18, 19, 20, 21], .code c9, .code c14] ⟨[g0, g1, (.str y2), (.str y3), (.str y4), g5, g6, g7, g8, g9, g10, g11, g12, g13, g14, g15, g16, g17, g18, g19, g20, g21, g22, g23, g24, g25, (.bool y26), g27, g28, g29, g30, g31, g32, g33, g34, g35, g36, g37, g38, g39, g40, g41, g42, g43, g44, g45], []⟩ S (fun v S1 => v = (.tup [(.str p.1.1), (.str p.1.2.1), (.str p.1.2.2.1), (.bool p.1.2.2.2)]) ∧ S1 = p.2) := by
  unfold J0 at h
  refine qS 27 rfl (ok_move · (.tmp rfl)) ?_
  rcases ifc h with ⟨hc4, h⟩ | ⟨hc4, h⟩
  · refine q_skip (dst := some 28) (t := 27) rfl rfl rfl hc4 ?_
    try dsimp only [w0, w1, w2, w3]
    refine q_skip (dst := some 29) (t := 27) rfl rfl rfl hc4 ?_
    refine qS 30 rfl (ok_pick_tt · (.tmp rfl) hc4 (.bool _)) ?_
    try dsimp only [w0, w1, w2, w3]
    exact J1_snd  h
  · refine qG 27 28 rfl (bfalse hc4) (ok_move · (.tmp rfl)) ?_
    try dsimp only [w0, w1, w2, w3]
    refine qG 27 29 rfl (bfalse hc4) (ok_sbin · (.tmp rfl) (.str _) rfl) ?_
    refine qS 30 rfl (ok_pick_ff · (.tmp rfl) (bfalse hc4) (.tmp rfl)) ?_
    try dsimp only [w0, w1, w2, w3]
    exact J1_snd  h
def f (k : Nat) (x0 : (List UInt8)) (S : HS) : Option (((List UInt8) × (List UInt8) × (List UInt8) × Bool) × HS) :=
  (Option.bind (strings_Cut.f k x0 ([33] : List UInt8) S) fun p1 =>
  (Option.bind (strings_Cut.f k p1.1.2.1 ([64] : List UInt8) p1.2) fun p2 =>
  (if (!p1.1.2.2) = true then
  J0 k p1.1.1 p2.1.1 p2.1.2.1 true p2.2 else
  J0 k p1.1.1 p2.1.1 p2.1.2.1 (!p2.1.2.2) p2.2)))
theorem snd {k : Nat} {x0 : (List UInt8)} {S : HS}  {p : ((List UInt8) × (List UInt8) × (List UInt8) × Bool) × HS} (h : f k x0 S = some p) : HCall Tryd.prog base W0 β0 16 [(.str x0)] S (fun v S1 => v = (.tup [(.str p.1.1), (.str p.1.2.1), (.str p.1.2.2.1), (.bool p.1.2.2.2)]) ∧ S1 = p.2) := by
  unfold f at h
  refine HCall.of_run at_.at_ body ?_
  show HRun Tryd.prog base W0 β0 16 none [.code c0] ⟨[(.str x0), τ, τ, τ, τ, τ, τ, τ, τ, τ, τ, τ, τ, τ, τ, τ, τ, τ, τ, τ, τ, τ, τ, τ, τ, τ, τ, τ, τ, τ, τ, τ, τ, τ, τ, τ, τ, τ, τ, τ, τ, τ, τ, τ, τ, τ], []⟩ S _
  refine q_seq rfl ?_
  refine q_region rfl rfl ?_
  refine qS 2 rfl (ok_assign · (.str _)) ?_
  refine qS 3 rfl (ok_assign · (.str _)) ?_
  refine qS 4 rfl (ok_assign · (.str _)) ?_
  refine qS 5 rfl (ok_assign · (.bool _)) ?_
  refine hr_region_end ?_
  try dsimp only [w0, w1, w2, w3]
  refine q_seq rfl ?_
  refine q_region rfl rfl ?_
  refine qS 10 rfl (ok_move · (.tmp rfl)) ?_
  obtain ⟨p1, hp1, h⟩ := bindo h
  refine q_call (dst := some 11) rfl (.func _) (.cons (.tmp rfl) (.cons (.str _) Evs.nil)) (HInv.static strings_Cut.at_ strings_Cut.body (strings_Cut.snd  hp1)) ?_
  rintro _ _ ⟨rfl, rfl⟩
  refine qS 9 rfl (ok_move · (.tmp rfl)) ?_
  refine qS 12 rfl (ok_extract · (.tmp rfl) rfl) ?_
  try dsimp only [w0, w1, w2, w3]
  refine qS 13 rfl (ok_extract · (.tmp rfl) rfl) ?_
  refine qS 14 rfl (ok_extract · (.tmp rfl) rfl) ?_
  refine qS 2 rfl (ok_assign · (.tmp rfl)) ?_
  refine qS 6 rfl (ok_assign · (.tmp rfl)) ?_
  try dsimp only [w0, w1, w2, w3]
  refine qS 7 rfl (ok_assign · (.tmp rfl)) ?_
  refine hr_region_end ?_
  try dsimp only [w0, w1, w2, w3]
  refine q_seq rfl ?_
  refine q_region rfl rfl ?_
  refine qS 16 rfl (ok_move · (.tmp rfl)) ?_
  obtain ⟨p2, hp2, h⟩ := bindo h
  refine q_call (dst := some 17) rfl (.func _) (.cons (.tmp rfl) (.cons (.str _) Evs.nil)) (HInv.static strings_Cut.at_ strings_Cut.body (strings_Cut.snd  hp2)) ?_
  rintro _ _ ⟨rfl, rfl⟩
  refine qS 15 rfl (ok_move · (.tmp rfl)) ?_
  refine qS 18 rfl (ok_extract · (.tmp rfl) rfl) ?_
  try dsimp only [w0, w1, w2, w3]
  refine qS 19 rfl (ok_extract · (.tmp rfl) rfl) ?_
  refine qS 20 rfl (ok_extract · (.tmp rfl) rfl) ?_
  refine qS 3 rfl (ok_assign · (.tmp rfl)) ?_
  refine qS 4 rfl (ok_assign · (.tmp rfl)) ?_
  try dsimp only [w0, w1, w2, w3]
  refine qS 8 rfl (ok_assign · (.tmp rfl)) ?_
  refine hr_region_end ?_
  try dsimp only [w0, w1, w2, w3]
  refine q_seq rfl ?_
  refine q_seq rfl ?_
  refine q_region rfl rfl ?_
  refine qS 21 rfl (ok_move · (.tmp rfl)) ?_
  refine qS 22 rfl (ok_not · (.tmp rfl)) ?_
  refine qS 23 rfl (ok_move · (.tmp rfl)) ?_
  rcases ifc h with ⟨hc3, h⟩ | ⟨hc3, h⟩
  · refine q_skip (dst := some 24) (t := 23) rfl rfl rfl hc3 ?_
    try dsimp only [w0, w1, w2, w3]
    refine q_skip (dst := some 25) (t := 23) rfl rfl rfl hc3 ?_
    refine qS 26 rfl (ok_pick_tt · (.tmp rfl) hc3 (.bool _)) ?_
    try dsimp only [w0, w1, w2, w3]
    exact J0_snd  h
  · refine qG 23 24 rfl (bfalse hc3) (ok_move · (.tmp rfl)) ?_
    try dsimp only [w0, w1, w2, w3]
    refine qG 23 25 rfl (bfalse hc3) (ok_not · (.tmp rfl)) ?_
    refine qS 26 rfl (ok_pick_ff · (.tmp rfl) (bfalse hc3) (.tmp rfl)) ?_
    try dsimp only [w0, w1, w2, w3]
    exact J0_snd  h
end
end glob_Cut
end Go.Proofs.YtgplnlknejbglaaDoor.X
