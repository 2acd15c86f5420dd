/- Functions of the program, each as a Lean function over the layer HL: a call answers what the Lean function answers, where it answers. Functions of the program, each as a Lean function over the layer HL: a call answers what the Lean function answers, where it answers. -/
import Derived.Test.YtgplnlknejbglaaDoorProg
import Derived.Test.YtgplnlknejbglaaDoorPart10
namespace Go.Proofs.YtgplnlknejbglaaDoor.X
open Go.Proofs.YtgplnlknejbglaaDoor.HL
set_option linter.unusedVariables false
set_option linter.unusedSimpArgs false
set_option maxRecDepth 20000
set_option maxHeartbeats 4000000
namespace unicode_utf8_ValidRune
theorem at_ : FnAt Tryd.prog 78 Tryd.f78 := ⟨Tryd.func78, by kernel_rfl⟩
noncomputable def d0 := (Tryd.f78.body).getD .skip
noncomputable def r1 := kR (kA d0)
noncomputable def d4 := kA (kA (kB d0))
noncomputable def r5 := kR (kA d4)
noncomputable def r8 := kR (kA (kA (kB d4)))
noncomputable def r11 := kR (kA (kB (kB d4)))
noncomputable def r14 := kR (kA (kA (kB (kB (kB d4)))))
noncomputable def r18 := kR (kA (kB (kB d0)))
noncomputable def c17 : Code := .seq (.region 5 r18 false) .ret
noncomputable def c12 : Code := .cond (.tmp 10) (.seq (.region 4 r14 false) .ret) .skip
noncomputable def c6 : Code := .cond (.tmp 3) (.seq (.region 2 r8 false) .ret) (.seq (.region 3 r11 false) c12)
noncomputable def c0 : Code := .seq (.region 0 r1 false) (.seq (.block 0 (.seq (.region 1 r5 false) c6)) c17)
theorem body : Tryd.f78.body = some c0 := by kernel_rfl
section
variable {base : Nat} {W0 : World} {β0 : Bt}
def J1  (y16 : Bool) : Option (Bool) :=
  (if y16 = true then
  some true else
  some false)
theorem J1_snd   {y16 : Bool} {S : HS} {p : Bool} {g0 g1 g2 g3 g4 g5 g6 g7 g8 g9 g10 g11 g12 g13 g14 g15 : HV} (h : J1  y16 = some p) : HRun Tryd.prog base W0 β0 78 none [.inRegion r11 [6], .code c12, .inBlock 0, .code c17] ⟨[g0, g1, g2, g3, g4, g5, g6, g7, g8, g9, g10, g11, g12, g13, g14, g15, (.bool y16)], []⟩ S (fun v S1 => v = (.bool p) ∧ S1 = S) := by
  unfold J1 at h
  refine qS 10 rfl (ok_assign · (.tmp rfl)) ?_
  refine hr_region_end ?_
  try dsimp only [w0, w1, w2, w3]
  rcases ifc h with ⟨hc4, h⟩ | ⟨hc4, h⟩
  · refine q_cond_t rfl (.tmp rfl) hc4 ?_
    refine q_seq rfl ?_
    refine q_region rfl rfl ?_
    refine qS 2 rfl (ok_assign · (.bool _)) ?_
    refine hr_region_end ?_
    try dsimp only [w0, w1, w2, w3]
    cases h
    exact q_ret rfl at_.at_ rfl (res1 rfl rfl) ⟨rfl, rfl⟩
  · refine q_cond_f rfl (.tmp rfl) (bfalse hc4) ?_
    refine q_skipc rfl ?_
    refine hr_inBlock ?_
    refine q_seq rfl ?_
    refine q_region rfl rfl ?_
    refine qS 2 rfl (ok_assign · (.bool _)) ?_
    refine hr_region_end ?_
    try dsimp only [w0, w1, w2, w3]
    cases h
    exact q_ret rfl at_.at_ rfl (res1 rfl rfl) ⟨rfl, rfl⟩
def J0  (y0 : Int) (y9 : Bool) : Option (Bool) :=
  (if y9 = true then
  some true else
  (if 57343 < y0 then
  J1 (decide (y0 ≤ 1114111)) else
  J1 false))
theorem J0_snd   {y0 : Int} {y9 : Bool} {S : HS} {p : Bool} {g1 g2 g3 g4 g5 g6 g7 g8 g10 g11 g12 g13 g14 g15 g16 : HV} (h : J0  y0 y9 = some p) : HRun Tryd.prog base W0 β0 78 none [.inRegion r5 [6], .code c6, .inBlock 0, .code c17] ⟨[(.int .i32 y0), g1, g2, g3, g4, g5, g6, g7, g8, (.bool y9), g10, g11, g12, g13, g14, g15, g16], []⟩ S (fun v S1 => v = (.bool p) ∧ S1 = S) := by
  unfold J0 at h
  refine qS 3 rfl (ok_assign · (.tmp rfl)) ?_
  refine hr_region_end ?_
  try dsimp only [w0, w1, w2, w3]
  rcases ifc h with ⟨hc2, h⟩ | ⟨hc2, h⟩
  · refine q_cond_t rfl (.tmp rfl) hc2 ?_
    refine q_seq rfl ?_
    refine q_region rfl rfl ?_
    refine qS 2 rfl (ok_assign · (.bool _)) ?_
    refine hr_region_end ?_
    try dsimp only [w0, w1, w2, w3]
    cases h
    exact q_ret rfl at_.at_ rfl (res1 rfl rfl) ⟨rfl, rfl⟩
  · refine q_cond_f rfl (.tmp rfl) (bfalse hc2) ?_
    refine q_seq rfl ?_
    refine q_region rfl rfl ?_
    refine qS 11 rfl (ok_move · (.tmp rfl)) ?_
    refine qS 12 rfl (ok_ibin · (.int _ _) (.tmp rfl) rfl) ?_
    refine qS 13 rfl (ok_move · (.tmp rfl)) ?_
    rcases ifc h with ⟨hc3, h⟩ | ⟨hc3, h⟩
    · refine qG 13 14 rfl (decide_eq_true hc3) (ok_move · (.tmp rfl)) ?_
      try dsimp only [w0, w1, w2, w3]
      refine qG 13 15 rfl (decide_eq_true hc3) (ok_ibin · (.tmp rfl) (.int _ _) rfl) ?_
      refine qS 16 rfl (ok_pick_tt · (.tmp rfl) (decide_eq_true hc3) (.tmp rfl)) ?_
      try dsimp only [w0, w1, w2, w3]
      exact J1_snd  h
    · refine q_skip (dst := some 14) (t := 13) rfl rfl rfl (decide_eq_false hc3) ?_
      try dsimp only [w0, w1, w2, w3]
      refine q_skip (dst := some 15) (t := 13) rfl rfl rfl (decide_eq_false hc3) ?_
      refine qS 16 rfl (ok_pick_ff · (.tmp rfl) (decide_eq_false hc3) (.bool _)) ?_
      try dsimp only [w0, w1, w2, w3]
      exact J1_snd  h
end
end unicode_utf8_ValidRune
namespace strings_IndexRune
theorem at_ : FnAt Tryd.prog 70 Tryd.f70 := ⟨Tryd.func70, by kernel_rfl⟩
noncomputable def c0 : Code := (Tryd.f70.body).getD .skip
theorem body : Tryd.f70.body = some c0 := by kernel_rfl
def f (x0 : (List UInt8)) (x1 : Int) (S : HS) : Option (((Int)) × HS) := none
theorem snd {base : Nat} {W0 : World} {β0 : Bt} {x0 : (List UInt8)} {x1 : Int} {S : HS} {p : ((Int)) × HS} (h : f x0 x1 S = some p) : HCall Tryd.prog base W0 β0 70 [(.str x0), (.int .i32 x1)] S (fun v S1 => v = (.int .i64 p.1) ∧ S1 = p.2) := by cases h
end strings_IndexRune
namespace strings_ContainsRune
theorem at_ : FnAt Tryd.prog 61 Tryd.f61 := ⟨Tryd.func61, by kernel_rfl⟩
noncomputable def d0 := (Tryd.f61.body).getD .skip
noncomputable def r1 := kR (kA d0)
noncomputable def r3 := kR (kA (kB d0))
noncomputable def c0 : Code := .seq (.region 0 r1 false) (.seq (.region 1 r3 false) .ret)
theorem body : Tryd.f61.body = some c0 := by kernel_rfl
section
variable {base : Nat} {W0 : World} {β0 : Bt}
def f (x0 : (List UInt8)) (x1 : Int) (S : HS) : Option ((Bool) × HS) :=
  (Option.bind (strings_IndexRune.f x0 x1 S) fun p1 =>
  some ((decide (p1.1 ≥ 0)), p1.2))
theorem snd {x0 : (List UInt8)} {x1 : Int} {S : HS}  {p : (Bool) × HS} (h : f x0 x1 S = some p) : HCall Tryd.prog base W0 β0 61 [(.str x0), (.int .i32 x1)] S (fun v S1 => v = (.bool p.1) ∧ S1 = p.2) := by
  unfold f at h
  refine HCall.of_run at_.at_ body ?_
  show HRun Tryd.prog base W0 β0 61 none [.code c0] ⟨[(.str x0), (.int .i32 x1), τ, τ, τ, τ, τ, τ, τ], []⟩ S _
  refine q_seq rfl ?_
  refine q_region rfl rfl ?_
  refine qS 4 rfl (ok_assign · (.bool _)) ?_
  refine hr_region_end ?_
  try dsimp only [w0, w1, w2, w3]
  refine q_seq rfl ?_
  refine q_region rfl rfl ?_
  refine qS 5 rfl (ok_move · (.tmp rfl)) ?_
  refine qS 6 rfl (ok_move · (.tmp rfl)) ?_
  obtain ⟨p1, hp1, h⟩ := bindo h
  refine q_call (dst := some 7) rfl (.func _) (.cons (.tmp rfl) (.cons (.tmp rfl) Evs.nil)) (HInv.static strings_IndexRune.at_ strings_IndexRune.body (strings_IndexRune.snd  hp1)) ?_
  rintro _ _ ⟨rfl, rfl⟩
  refine qS 8 rfl (ok_ibin · (.tmp rfl) (.int _ _) rfl) ?_
  try dsimp only [w0, w1, w2, w3]
  refine qS 4 rfl (ok_assign · (.tmp rfl)) ?_
  refine hr_region_end ?_
  try dsimp only [w0, w1, w2, w3]
  cases h
  exact q_ret rfl at_.at_ rfl (res1 rfl rfl) ⟨rfl, rfl⟩
end
end strings_ContainsRune
namespace strings_trimRightUnicode
theorem at_ : FnAt Tryd.prog 47 Tryd.f47 := ⟨Tryd.func47, by kernel_rfl⟩
noncomputable def d0 := (Tryd.f47.body).getD .skip
noncomputable def r1 := kR (kA d0)
noncomputable def d4 := kA (kA (kB d0))
noncomputable def r7 := kR (kA (kA (kA d4)))
noncomputable def d12 := kA (kB (kA d4))
noncomputable def r13 := kR (kA d12)
noncomputable def r16 := kR (kA (kA (kB d12)))
noncomputable def r18 := kR (kA (kB (kA (kB d12))))
noncomputable def r22 := kR (kA (kA (kB (kB d12))))
noncomputable def r26 := kR (kB (kB (kB d12)))
noncomputable def r28 := kR (kA (kB (kB d0)))
noncomputable def c27 : Code := .seq (.region 7 r28 false) .ret
noncomputable def c20 : Code := .seq (.seq (.region 5 r22 false) (.cond (.tmp 26) (.exit 0) .skip)) (.region 6 r26 false)
noncomputable def c5 : Code := .seq (.seq (.region 1 r7 false) (.cond (.tmp 9) .skip (.exit 0))) (.block 1 (.seq (.region 2 r13 false) (.seq (.seq (.region 3 r16 false) (.cond (.tmp 17) (.region 4 r18 false) .skip)) c20)))
noncomputable def c0 : Code := .seq (.region 0 r1 false) (.seq (.block 0 (.loop c5)) c27)
theorem body : Tryd.f47.body = some c0 := by kernel_rfl
section
variable {base : Nat} {W0 : World} {β0 : Bt}
def J2 (k : Nat) (y0 : (List UInt8)) (S : HS) : Option (((List UInt8)) × HS) :=
  some (y0, S)
theorem J2_snd {k : Nat}  {y0 : (List UInt8)} {S : HS} {p : ((List UInt8)) × HS} {g1 g2 g3 g4 g5 g6 g7 g8 g9 g10 g11 g12 g13 g14 g15 g16 g17 g18 g19 g20 g21 g22 g23 g24 g25 g26 g27 g28 g29 g30 g31 g32 g33 : HV} (h : J2 k y0 S = some p) : HRun Tryd.prog base W0 β0 47 none [.code c27] ⟨[(.str y0), g1, g2, g3, g4, g5, g6, g7, g8, g9, g10, g11, g12, g13, g14, g15, g16, g17, g18, g19, g20, g21, g22, g23, g24, g25, g26, g27, g28, g29, g30, g31, g32, g33], []⟩ S (fun v S1 => v = (.str p.1) ∧ S1 = p.2) := by
  unfold J2 at h
  refine q_seq rfl ?_
  refine q_region rfl rfl ?_
  refine qS 33 rfl (ok_move · (.tmp rfl)) ?_
  refine qS 4 rfl (ok_assign · (.tmp rfl)) ?_
  refine hr_region_end ?_
  try dsimp only [w0, w1, w2, w3]
  cases h
  exact q_ret rfl at_.at_ rfl (res1 rfl rfl) ⟨rfl, rfl⟩
def J1 (k : Nat) (rec0 : (List UInt8) → (List UInt8) → HS → Option (((List UInt8)) × HS)) (y0 : (List UInt8)) (y1 : (List UInt8)) (y5 : Int) (y6 : Int) (S : HS) : Option (((List UInt8)) × HS) :=
  (Option.bind (strings_ContainsRune.f y1 y5 S) fun p5 =>
  (if (!p5.1) = true then
  J2 k y0 p5.2 else
  (if 0 ≤ (0 : Int) ∧ (0 : Int) ≤ (w64 ((List.length y0 : Int) - y6)) ∧ ((w64 ((List.length y0 : Int) - y6)) : Int) ≤ (List.length y0 : Int) then
  rec0 (ssub y0 0 (w64 ((List.length y0 : Int) - y6))) y1 p5.2 else none)))
theorem J1_snd {k : Nat} {rec0 : (List UInt8) → (List UInt8) → HS → Option (((List UInt8)) × HS)} (hrec0 : ∀ ⦃y0 : (List UInt8)⦄ ⦃y1 : (List UInt8)⦄ ⦃S : HS⦄ ⦃p : ((List UInt8)) × HS⦄ ⦃g2 g3 g4 g5 g6 g7 g8 g9 g10 g11 g12 g13 g14 g15 g16 g17 g18 g19 g20 g21 g22 g23 g24 g25 g26 g27 g28 g29 g30 g31 g32 g33 : HV⦄, rec0 y0 y1 S = some p → HRun Tryd.prog base W0 β0 47 none [.inLoop c5, .inBlock 0, .code c27] ⟨[(.str y0), (.str y1), g2, g3, g4, g5, g6, g7, g8, g9, g10, g11, g12, g13, g14, g15, g16, g17, g18, g19, g20, g21, g22, g23, g24, g25, g26, g27, g28, g29, g30, g31, g32, g33], []⟩ S (fun v S1 => v = (.str p.1) ∧ S1 = p.2)) {y0 : (List UInt8)} {y1 : (List UInt8)} {y5 : Int} {y6 : Int} {S : HS} {p : ((List UInt8)) × HS} {g2 g3 g4 g7 g8 g9 g10 g11 g12 g13 g14 g15 g16 g17 g18 g19 g20 g21 g22 g23 g24 g25 g26 g27 g28 g29 g30 g31 g32 g33 : HV} (h : J1 k rec0 y0 y1 y5 y6 S = some p) : HRun Tryd.prog base W0 β0 47 none [.code c20, .inBlock 1, .inLoop c5, .inBlock 0, .code c27] ⟨[(.str y0), (.str y1), g2, g3, g4, (.int .i32 y5), (.int .i64 y6), g7, g8, g9, g10, g11, g12, g13, g14, g15, g16, g17, g18, g19, g20, g21, g22, g23, g24, g25, g26, g27, g28, g29, g30, g31, g32, g33], []⟩ S (fun v S1 => v = (.str p.1) ∧ S1 = p.2) := by
  unfold J1 at h
  refine q_seq rfl ?_
  refine q_seq rfl ?_
  refine q_region rfl rfl ?_
  refine qS 23 rfl (ok_move · (.tmp rfl)) ?_
  refine qS 24 rfl (ok_move · (.tmp rfl)) ?_
  obtain ⟨p5, hp5, h⟩ := bindo h
  refine q_call (dst := some 25) rfl (.func _) (.cons (.tmp rfl) (.cons (.tmp rfl) Evs.nil)) (HInv.static strings_ContainsRune.at_ strings_ContainsRune.body (strings_ContainsRune.snd  hp5)) ?_
  rintro _ _ ⟨rfl, rfl⟩
  refine qS 26 rfl (ok_not · (.tmp rfl)) ?_
  refine hr_region_end ?_
  try dsimp only [w0, w1, w2, w3]
  rcases ifc h with ⟨hc6, h⟩ | ⟨hc6, h⟩
  · refine q_cond_t rfl (.tmp rfl) hc6 ?_
    refine q_exit rfl rfl ?_
    try dsimp only [w0, w1, w2, w3]
    exact J2_snd  h
  · refine q_cond_f rfl (.tmp rfl) (bfalse hc6) ?_
    refine q_skipc rfl ?_
    refine q_region rfl rfl ?_
    refine qS 27 rfl (ok_move · (.tmp rfl)) ?_
    refine qS 28 rfl (ok_move · (.tmp rfl)) ?_
    refine qS 29 rfl (ok_len_str · rfl tu9 (.tmp rfl)) ?_
    refine qS 30 rfl (ok_move · (.tmp rfl)) ?_
    try dsimp only [w0, w1, w2, w3]
    refine qS 31 rfl (ok_ibin · (.tmp rfl) (.tmp rfl) rfl) ?_
    obtain ⟨hg7, h⟩ := gd h
    refine qS 32 rfl (ok_slice_str (kl := .i64) (kh := .i64) (l := 0) (h := (w64 ((List.length y0 : Int) - y6))) · tu9 (.tmp rfl) (.inl ⟨rfl, rfl⟩) (.inr ⟨_, rfl, (.tmp rfl)⟩) hg7.1 hg7.2.1 hg7.2.2) ?_
    refine qS 0 rfl (ok_assign · (.tmp rfl)) ?_
    refine hr_region_end ?_
    try dsimp only [w0, w1, w2, w3]
    refine hr_inBlock ?_
    try dsimp only [w0, w1, w2, w3]
    exact hrec0 h
def L0 (k : Nat) : Nat → (List UInt8) → (List UInt8) → HS → Option (((List UInt8)) × HS)
  | 0, _, _, _ => none
  | n + 1, y0, y1, S =>
    (if (List.length y0 : Int) > 0 then
    (Option.bind (sat y0 (w64 ((List.length y0 : Int) - 1))) fun p2 =>
    (if (IntKind.wrap .i32 (UInt8.toNat p2 : Int)) ≥ 128 then
    (Option.bind (unicode_utf8_DecodeLastRuneInString.f k y0 S) fun p4 =>
    J1 k (L0 k n) y0 y1 p4.1.1 p4.1.2 p4.2) else
    J1 k (L0 k n) y0 y1 (IntKind.wrap .i32 (UInt8.toNat p2 : Int)) 1 S)) else
    J2 k y0 S)
theorem L0_snd {k : Nat}  : ∀ {n : Nat} ⦃y0 : (List UInt8)⦄ ⦃y1 : (List UInt8)⦄ ⦃S : HS⦄ ⦃p : ((List UInt8)) × HS⦄ ⦃g2 g3 g4 g5 g6 g7 g8 g9 g10 g11 g12 g13 g14 g15 g16 g17 g18 g19 g20 g21 g22 g23 g24 g25 g26 g27 g28 g29 g30 g31 g32 g33 : HV⦄, L0 k n y0 y1 S = some p → HRun Tryd.prog base W0 β0 47 none [.inLoop c5, .inBlock 0, .code c27] ⟨[(.str y0), (.str y1), g2, g3, g4, g5, g6, g7, g8, g9, g10, g11, g12, g13, g14, g15, g16, g17, g18, g19, g20, g21, g22, g23, g24, g25, g26, g27, g28, g29, g30, g31, g32, g33], []⟩ S (fun v S1 => v = (.str p.1) ∧ S1 = p.2) := by
  intro n
  induction n with
  | zero => intro _ _ _ _ _ _ _ _ _ _ _ _ _ _ _ _ _ _ _ _ _ _ _ _ _ _ _ _ _ _ _ _ _ _ _ _ h; cases h
  | succ n ih =>
    intro y0 y1 S p g2 g3 g4 g5 g6 g7 g8 g9 g10 g11 g12 g13 g14 g15 g16 g17 g18 g19 g20 g21 g22 g23 g24 g25 g26 g27 g28 g29 g30 g31 g32 g33 h
    simp only [L0] at h
    refine hr_inLoop ?_
    refine q_seq rfl ?_
    refine q_seq rfl ?_
    refine q_region rfl rfl ?_
    refine qS 7 rfl (ok_move · (.tmp rfl)) ?_
    refine qS 8 rfl (ok_len_str · rfl tu9 (.tmp rfl)) ?_
    refine qS 9 rfl (ok_ibin · (.tmp rfl) (.int _ _) rfl) ?_
    refine hr_region_end ?_
    try dsimp only [w0, w1, w2, w3]
    rcases ifc h with ⟨hc1, h⟩ | ⟨hc1, h⟩
    · refine q_cond_t rfl (.tmp rfl) (decide_eq_true hc1) ?_
      refine q_skipc rfl ?_
      refine q_block rfl ?_
      refine q_seq rfl ?_
      refine q_region rfl rfl ?_
      refine qS 10 rfl (ok_move · (.tmp rfl)) ?_
      refine qS 11 rfl (ok_move · (.tmp rfl)) ?_
      refine qS 12 rfl (ok_len_str · rfl tu9 (.tmp rfl)) ?_
      refine qS 13 rfl (ok_ibin · (.tmp rfl) (.int _ _) rfl) ?_
      try dsimp only [w0, w1, w2, w3]
      obtain ⟨p2, hp2, h⟩ := bindo h
      refine qS 14 rfl (ok_index_s · tu9 (.tmp rfl) (.tmp rfl) hp2) ?_
      refine qS 15 rfl (ok_conv_int · tu5 tu21 (.tmp rfl)) ?_
      refine qS 5 rfl (ok_assign · (.tmp rfl)) ?_
      refine qS 6 rfl (ok_assign · (.int _ _)) ?_
      refine hr_region_end ?_
      try dsimp only [w0, w1, w2, w3]
      refine q_seq rfl ?_
      refine q_seq rfl ?_
      refine q_region rfl rfl ?_
      refine qS 16 rfl (ok_move · (.tmp rfl)) ?_
      refine qS 17 rfl (ok_ibin · (.tmp rfl) (.int _ _) rfl) ?_
      refine hr_region_end ?_
      try dsimp only [w0, w1, w2, w3]
      rcases ifc h with ⟨hc3, h⟩ | ⟨hc3, h⟩
      · refine q_cond_t rfl (.tmp rfl) (decide_eq_true hc3) ?_
        refine q_region rfl rfl ?_
        refine qS 19 rfl (ok_move · (.tmp rfl)) ?_
        obtain ⟨p4, hp4, h⟩ := bindo h
        refine q_call (dst := some 20) rfl (.func _) (.cons (.tmp rfl) Evs.nil) (HInv.static unicode_utf8_DecodeLastRuneInString.at_ unicode_utf8_DecodeLastRuneInString.body (unicode_utf8_DecodeLastRuneInString.snd  hp4)) ?_
        rintro _ _ ⟨rfl, rfl⟩
        refine qS 18 rfl (ok_move · (.tmp rfl)) ?_
        refine qS 21 rfl (ok_extract · (.tmp rfl) rfl) ?_
        try dsimp only [w0, w1, w2, w3]
        refine qS 22 rfl (ok_extract · (.tmp rfl) rfl) ?_
        refine qS 5 rfl (ok_assign · (.tmp rfl)) ?_
        refine qS 6 rfl (ok_assign · (.tmp rfl)) ?_
        refine hr_region_end ?_
        try dsimp only [w0, w1, w2, w3]
        try dsimp only [w0, w1, w2, w3]
        exact J1_snd ih h
      · refine q_cond_f rfl (.tmp rfl) (decide_eq_false hc3) ?_
        refine q_skipc rfl ?_
        try dsimp only [w0, w1, w2, w3]
        exact J1_snd ih h
    · refine q_cond_f rfl (.tmp rfl) (decide_eq_false hc1) ?_
      refine q_exit rfl rfl ?_
      try dsimp only [w0, w1, w2, w3]
      exact J2_snd  h
def f (k : Nat) (x0 : (List UInt8)) (x1 : (List UInt8)) (S : HS) : Option (((List UInt8)) × HS) :=
  L0 k k x0 x1 S
theorem snd {k : Nat} {x0 : (List UInt8)} {x1 : (List UInt8)} {S : HS}  {p : ((List UInt8)) × HS} (h : f k x0 x1 S = some p) : HCall Tryd.prog base W0 β0 47 [(.str x0), (.str x1)] S (fun v S1 => v = (.str p.1) ∧ S1 = p.2) := by
  unfold f at h
  refine HCall.of_run at_.at_ body ?_
  show HRun Tryd.prog base W0 β0 47 none [.code c0] ⟨[(.str x0), (.str x1), τ, τ, τ, τ, τ, τ, τ, τ, τ, τ, τ, τ, τ, τ, τ, τ, τ, τ, τ, τ, τ, τ, τ, τ, τ, τ, τ, τ, τ, τ, τ, τ], []⟩ S _
  refine q_seq rfl ?_
  refine q_region rfl rfl ?_
  refine qS 4 rfl (ok_assign · (.str _)) ?_
  refine hr_region_end ?_
  try dsimp only [w0, w1, w2, w3]
  refine q_seq rfl ?_
  refine q_block rfl ?_
  refine q_loop rfl ?_
  try dsimp only [w0, w1, w2, w3]
  exact L0_snd  h
end
end strings_trimRightUnicode
namespace strings_trimLeftUnicode
theorem at_ : FnAt Tryd.prog 46 Tryd.f46 := ⟨Tryd.func46, by kernel_rfl⟩
noncomputable def d0 := (Tryd.f46.body).getD .skip
noncomputable def r1 := kR (kA d0)
noncomputable def d4 := kA (kA (kB d0))
noncomputable def r7 := kR (kA (kA (kA d4)))
noncomputable def r13 := kR (kA (kA (kB (kA d4))))
noncomputable def r16 := kR (kA (kA (kB (kA (kB (kA d4))))))
noncomputable def r20 := kR (kB (kB (kA (kB (kA d4)))))
noncomputable def r22 := kR (kA (kB (kB d0)))
noncomputable def c21 : Code := .seq (.region 5 r22 false) .ret
noncomputable def c5 : Code := .seq (.seq (.region 1 r7 false) (.cond (.tmp 9) .skip (.exit 0))) (.block 1 (.seq (.region 2 r13 false) (.seq (.seq (.region 3 r16 false) (.cond (.tmp 18) (.exit 0) .skip)) (.region 4 r20 false))))
noncomputable def c0 : Code := .seq (.region 0 r1 false) (.seq (.block 0 (.loop c5)) c21)
theorem body : Tryd.f46.body = some c0 := by kernel_rfl
section
variable {base : Nat} {W0 : World} {β0 : Bt}
def J1 (k : Nat) (y0 : (List UInt8)) (S : HS) : Option (((List UInt8)) × HS) :=
  some (y0, S)
theorem J1_snd {k : Nat}  {y0 : (List UInt8)} {S : HS} {p : ((List UInt8)) × HS} {g1 g2 g3 g4 g5 g6 g7 g8 g9 g10 g11 g12 g13 g14 g15 g16 g17 g18 g19 g20 g21 g22 : HV} (h : J1 k y0 S = some p) : HRun Tryd.prog base W0 β0 46 none [.code c21] ⟨[(.str y0), g1, g2, g3, g4, g5, g6, g7, g8, g9, g10, g11, g12, g13, g14, g15, g16, g17, g18, g19, g20, g21, g22], []⟩ S (fun v S1 => v = (.str p.1) ∧ S1 = p.2) := by
  unfold J1 at h
  refine q_seq rfl ?_
  refine q_region rfl rfl ?_
  refine qS 22 rfl (ok_move · (.tmp rfl)) ?_
  refine qS 4 rfl (ok_assign · (.tmp rfl)) ?_
  refine hr_region_end ?_
  try dsimp only [w0, w1, w2, w3]
  cases h
  exact q_ret rfl at_.at_ rfl (res1 rfl rfl) ⟨rfl, rfl⟩
def L0 (k : Nat) : Nat → (List UInt8) → (List UInt8) → HS → Option (((List UInt8)) × HS)
  | 0, _, _, _ => none
  | n + 1, y0, y1, S =>
    (if (List.length y0 : Int) > 0 then
    (Option.bind (unicode_utf8_DecodeRuneInString.f y0 S) fun p2 =>
    (Option.bind (strings_ContainsRune.f y1 p2.1.1 p2.2) fun p3 =>
    (if (!p3.1) = true then
    J1 k y0 p3.2 else
    (if 0 ≤ (p2.1.2 : Int) ∧ (p2.1.2 : Int) ≤ (List.length y0 : Int) ∧ ((List.length y0 : Int) : Int) ≤ (List.length y0 : Int) then
    (L0 k n) (ssub y0 p2.1.2 (List.length y0 : Int)) y1 p3.2 else none)))) else
    J1 k y0 S)
theorem L0_snd {k : Nat}  : ∀ {n : Nat} ⦃y0 : (List UInt8)⦄ ⦃y1 : (List UInt8)⦄ ⦃S : HS⦄ ⦃p : ((List UInt8)) × HS⦄ ⦃g2 g3 g4 g5 g6 g7 g8 g9 g10 g11 g12 g13 g14 g15 g16 g17 g18 g19 g20 g21 g22 : HV⦄, L0 k n y0 y1 S = some p → HRun Tryd.prog base W0 β0 46 none [.inLoop c5, .inBlock 0, .code c21] ⟨[(.str y0), (.str y1), g2, g3, g4, g5, g6, g7, g8, g9, g10, g11, g12, g13, g14, g15, g16, g17, g18, g19, g20, g21, g22], []⟩ S (fun v S1 => v = (.str p.1) ∧ S1 = p.2) := by
  intro n
  induction n with
  | zero => intro _ _ _ _ _ _ _ _ _ _ _ _ _ _ _ _ _ _ _ _ _ _ _ _ _ h; cases h
  | succ n ih =>
    intro y0 y1 S p g2 g3 g4 g5 g6 g7 g8 g9 g10 g11 g12 g13 g14 g15 g16 g17 g18 g19 g20 g21 g22 h
    simp only [L0] at h
    refine hr_inLoop ?_
    refine q_seq rfl ?_
    refine q_seq rfl ?_
    refine q_region rfl rfl ?_
    refine qS 7 rfl (ok_move · (.tmp rfl)) ?_
    refine qS 8 rfl (ok_len_str · rfl tu9 (.tmp rfl)) ?_
    refine qS 9 rfl (ok_ibin · (.tmp rfl) (.int _ _) rfl) ?_
    refine hr_region_end ?_
    try dsimp only [w0, w1, w2, w3]
    rcases ifc h with ⟨hc1, h⟩ | ⟨hc1, h⟩
    · refine q_cond_t rfl (.tmp rfl) (decide_eq_true hc1) ?_
      refine q_skipc rfl ?_
      refine q_block rfl ?_
      refine q_seq rfl ?_
      refine q_region rfl rfl ?_
      refine qS 11 rfl (ok_move · (.tmp rfl)) ?_
      obtain ⟨p2, hp2, h⟩ := bindo h
      refine q_call (dst := some 12) rfl (.func _) (.cons (.tmp rfl) Evs.nil) (HInv.static unicode_utf8_DecodeRuneInString.at_ unicode_utf8_DecodeRuneInString.body (unicode_utf8_DecodeRuneInString.snd  hp2)) ?_
      rintro _ _ ⟨rfl, rfl⟩
      refine qS 10 rfl (ok_move · (.tmp rfl)) ?_
      refine qS 13 rfl (ok_extract · (.tmp rfl) rfl) ?_
      try dsimp only [w0, w1, w2, w3]
      refine qS 14 rfl (ok_extract · (.tmp rfl) rfl) ?_
      refine qS 5 rfl (ok_assign · (.tmp rfl)) ?_
      refine qS 6 rfl (ok_assign · (.tmp rfl)) ?_
      refine hr_region_end ?_
      try dsimp only [w0, w1, w2, w3]
      refine q_seq rfl ?_
      refine q_seq rfl ?_
      refine q_region rfl rfl ?_
      refine qS 15 rfl (ok_move · (.tmp rfl)) ?_
      refine qS 16 rfl (ok_move · (.tmp rfl)) ?_
      obtain ⟨p3, hp3, h⟩ := bindo h
      refine q_call (dst := some 17) rfl (.func _) (.cons (.tmp rfl) (.cons (.tmp rfl) Evs.nil)) (HInv.static strings_ContainsRune.at_ strings_ContainsRune.body (strings_ContainsRune.snd  hp3)) ?_
      rintro _ _ ⟨rfl, rfl⟩
      refine qS 18 rfl (ok_not · (.tmp rfl)) ?_
      refine hr_region_end ?_
      try dsimp only [w0, w1, w2, w3]
      rcases ifc h with ⟨hc4, h⟩ | ⟨hc4, h⟩
      · refine q_cond_t rfl (.tmp rfl) hc4 ?_
        refine q_exit rfl rfl ?_
        try dsimp only [w0, w1, w2, w3]
        exact J1_snd  h
      · refine q_cond_f rfl (.tmp rfl) (bfalse hc4) ?_
        refine q_skipc rfl ?_
        refine q_region rfl rfl ?_
        refine qS 19 rfl (ok_move · (.tmp rfl)) ?_
        refine qS 20 rfl (ok_move · (.tmp rfl)) ?_
        obtain ⟨hg5, h⟩ := gd h
        refine qS 21 rfl (ok_slice_str (kl := .i64) (kh := .i64) (l := p2.1.2) (h := (List.length y0 : Int)) · tu9 (.tmp rfl) (.inr ⟨_, rfl, (.tmp rfl)⟩) (.inl ⟨rfl, rfl⟩) hg5.1 hg5.2.1 hg5.2.2) ?_
        refine qS 0 rfl (ok_assign · (.tmp rfl)) ?_
        refine hr_region_end ?_
        try dsimp only [w0, w1, w2, w3]
        refine hr_inBlock ?_
        try dsimp only [w0, w1, w2, w3]
        exact ih h
    · refine q_cond_f rfl (.tmp rfl) (decide_eq_false hc1) ?_
      refine q_exit rfl rfl ?_
      try dsimp only [w0, w1, w2, w3]
      exact J1_snd  h
def f (k : Nat) (x0 : (List UInt8)) (x1 : (List UInt8)) (S : HS) : Option (((List UInt8)) × HS) :=
  L0 k k x0 x1 S
theorem snd {k : Nat} {x0 : (List UInt8)} {x1 : (List UInt8)} {S : HS}  {p : ((List UInt8)) × HS} (h : f k x0 x1 S = some p) : HCall Tryd.prog base W0 β0 46 [(.str x0), (.str x1)] S (fun v S1 => v = (.str p.1) ∧ S1 = p.2) := by
  unfold f at h
  refine HCall.of_run at_.at_ body ?_
  show HRun Tryd.prog base W0 β0 46 none [.code c0] ⟨[(.str x0), (.str x1), τ, τ, τ, τ, τ, τ, τ, τ, τ, τ, τ, τ, τ, τ, τ, τ, τ, τ, τ, τ, τ], []⟩ S _
  refine q_seq rfl ?_
  refine q_region rfl rfl ?_
  refine qS 4 rfl (ok_assign · (.str _)) ?_
  refine hr_region_end ?_
  try dsimp only [w0, w1, w2, w3]
  refine q_seq rfl ?_
  refine q_block rfl ?_
  refine q_loop rfl ?_
  try dsimp only [w0, w1, w2, w3]
  exact L0_snd  h
end
end strings_trimLeftUnicode
namespace strings_Trim
theorem at_ : FnAt Tryd.prog 29 Tryd.f29 := ⟨Tryd.func29, by kernel_rfl⟩
noncomputable def d0 := (Tryd.f29.body).getD .skip
noncomputable def r1 := kR (kA d0)
noncomputable def r4 := kR (kA (kA (kB d0)))
noncomputable def r7 := kR (kA (kA (kB (kA (kB d0)))))
noncomputable def r12 := kR (kA (kA (kB (kB d0))))
noncomputable def r15 := kR (kA (kA (kB (kA (kB (kB d0))))))
noncomputable def d18 := kB (kB (kB d0))
noncomputable def r20 := kR (kA (kA d18))
noncomputable def r22 := kR (kA (kB (kA d18)))
noncomputable def r25 := kR (kA (kA (kB (kB (kA d18)))))
noncomputable def r29 := kR (kA (kB d18))
noncomputable def c18 : Code := .seq (.seq (.region 5 r20 false) (.seq (.region 6 r22 false) (.cond (.tmp 34) (.seq (.region 7 r25 false) .ret) .skip))) (.seq (.region 8 r29 false) .ret)
noncomputable def c13 : Code := .cond (.tmp 21) (.seq (.region 4 r15 true) .ret) .skip
noncomputable def c10 : Code := .seq (.seq (.region 3 r12 false) c13) c18
noncomputable def c5 : Code := .cond (.tmp 12) (.seq (.region 2 r7 false) .ret) .skip
noncomputable def c0 : Code := .seq (.region 0 r1 false) (.seq (.seq (.region 1 r4 false) c5) c10)
theorem body : Tryd.f29.body = some c0 := by kernel_rfl
section
variable {base : Nat} {W0 : World} {β0 : Bt}
def J1 (k : Nat) (y0 : (List UInt8)) (y1 : (List UInt8)) (y21 : Bool) (S : HS) : Option (((List UInt8)) × HS) :=
  (if y21 = true then
  (Option.bind (sat y1 0) fun p6 =>
  (Option.bind (strings_trimRightByte.f k y0 (UInt8.toNat p6 : Int)) fun p7 =>
  (Option.bind (sat y1 0) fun p8 =>
  (Option.bind (strings_trimLeftByte.f k p7 (UInt8.toNat p8 : Int)) fun p9 =>
  some (p9, S))))) else
  (Option.bind (strings_makeASCIISet.f k y1 S) fun p10 =>
  (letv (HS.new p10.2 (.cells 256 [List.replicate 256 (.bool false)] true)) fun p11 =>
  (if List.length p10.1.1 = 256 ∧ List.all p10.1.1 HV.flat = true then
  (Option.bind (HS.sets p11 (HA.cell0 p10.2.next) p10.1.1) fun p13 =>
  (if p10.1.2 = true then
  (Option.bind (strings_trimRightASCII.f k y0 (some (HA.cell0 p10.2.next)) p13) fun p15 =>
  (Option.bind (strings_trimLeftASCII.f k p15.1 (some (HA.cell0 p10.2.next)) p15.2) fun p16 =>
  some (p16.1, p16.2))) else
  (Option.bind (strings_trimRightUnicode.f k y0 y1 p13) fun p17 =>
  (Option.bind (strings_trimLeftUnicode.f k p17.1 y1 p17.2) fun p18 =>
  some (p18.1, p18.2))))) else none))))
theorem J1_snd {k : Nat}  {y0 : (List UInt8)} {y1 : (List UInt8)} {y21 : Bool} {S : HS} {p : ((List UInt8)) × HS} {g2 g3 g4 g5 g6 g7 g8 g9 g10 g11 g12 g13 g14 g15 g16 g17 g18 g19 g20 g22 g23 g24 g25 g26 g27 g28 g29 g30 g31 g32 g33 g34 g35 g36 g37 g38 g39 g40 g41 g42 : HV} (h : J1 k y0 y1 y21 S = some p) : HRun Tryd.prog base W0 β0 29 none [.code c13, .code c18] ⟨[(.str y0), (.str y1), g2, g3, g4, g5, g6, g7, g8, g9, g10, g11, g12, g13, g14, g15, g16, g17, g18, g19, g20, (.bool y21), g22, g23, g24, g25, g26, g27, g28, g29, g30, g31, g32, g33, g34, g35, g36, g37, g38, g39, g40, g41, g42], []⟩ S (fun v S1 => v = (.str p.1) ∧ S1 = p.2) := by
  unfold J1 at h
  rcases ifc h with ⟨hc5, h⟩ | ⟨hc5, h⟩
  · refine q_cond_t rfl (.tmp rfl) hc5 ?_
    refine q_seq rfl ?_
    refine x_start (cls := [0, 0, 0, 0, 0, 0, 0, 0]) (rk := [0, 1, 2, 3, 4, 5, 6, 7]) rfl (by kernel_rfl) ?_
    refine yf 22 [0] rfl (ok_move · (.tmp rfl)) ?_
    refine yf 23 [1] rfl (ok_move · (.tmp rfl)) ?_
    obtain ⟨p6, hp6, h⟩ := bindo h
    refine yf 24 [23] rfl (ok_index_s · tu9 (.tmp rfl) (.int _ _) hp6) ?_
    obtain ⟨p7, hp7, h⟩ := bindo h
    refine x_go (f_call (dst := some 25) (ts := [22, 24]) rfl (by kernel_rfl) (.func _) (.cons (.tmp rfl) (.cons (.tmp rfl) Evs.nil)) (fun _ => (HInv.static strings_trimRightByte.at_ strings_trimRightByte.body (strings_trimRightByte.snd  hp7)))) rfl ?_
    try dsimp only [w0, w1, w2, w3]
    refine yf 26 [1] rfl (ok_move · (.tmp rfl)) ?_
    obtain ⟨p8, hp8, h⟩ := bindo h
    refine yf 27 [26] rfl (ok_index_s · tu9 (.tmp rfl) (.int _ _) hp8) ?_
    obtain ⟨p9, hp9, h⟩ := bindo h
    refine x_go (f_call (dst := some 28) (ts := [25, 27]) rfl (by kernel_rfl) (.func _) (.cons (.tmp rfl) (.cons (.tmp rfl) Evs.nil)) (fun _ => (HInv.static strings_trimLeftByte.at_ strings_trimLeftByte.body (strings_trimLeftByte.snd  hp9)))) rfl ?_
    refine yf 4 [28] rfl (ok_assign · (.tmp rfl)) ?_
    refine x_rest rfl ?_
    refine hr_region_end ?_
    try dsimp only [w0, w1, w2, w3]
    cases h
    exact q_ret rfl at_.at_ rfl (res1 rfl rfl) ⟨rfl, rfl⟩
  · refine q_cond_f rfl (.tmp rfl) (bfalse hc5) ?_
    refine q_skipc rfl ?_
    refine q_seq rfl ?_
    refine q_seq rfl ?_
    refine q_region rfl rfl ?_
    refine qS 30 rfl (ok_move · (.tmp rfl)) ?_
    obtain ⟨p10, hp10, h⟩ := bindo h
    refine q_call (dst := some 31) rfl (.func _) (.cons (.tmp rfl) Evs.nil) (HInv.static strings_makeASCIISet.at_ strings_makeASCIISet.body (strings_makeASCIISet.snd  hp10)) ?_
    rintro _ _ ⟨rfl, rfl⟩
    refine qS 29 rfl (ok_move · (.tmp rfl)) ?_
    refine qS 32 rfl (ok_extract · (.tmp rfl) rfl) ?_
    try dsimp only [w0, w1, w2, w3]
    refine qS 33 rfl (ok_extract · (.tmp rfl) rfl) ?_
    obtain ⟨p11, hp11, h⟩ := leto h
    refine qS 5 rfl (ok_alloc_arr · za54 (fun β => .bool _) (by decide) rfl hp11) ?_
    obtain ⟨hg12, h⟩ := gd h
    obtain ⟨p13, hp13, h⟩ := bindo h
    refine qN rfl (ok_store_arr · sz54 (.tmp rfl) rfl (.tmp rfl) hg12 hp13) ?_
    refine qS 6 rfl (ok_assign · (.tmp rfl)) ?_
    refine hr_region_end ?_
    try dsimp only [w0, w1, w2, w3]
    refine q_seq rfl ?_
    refine q_region rfl rfl ?_
    refine qS 34 rfl (ok_move · (.tmp rfl)) ?_
    refine hr_region_end ?_
    try dsimp only [w0, w1, w2, w3]
    rcases ifc h with ⟨hc14, h⟩ | ⟨hc14, h⟩
    · refine q_cond_t rfl (.tmp rfl) hc14 ?_
      refine q_seq rfl ?_
      refine q_region rfl rfl ?_
      refine qS 35 rfl (ok_move · (.tmp rfl)) ?_
      obtain ⟨p15, hp15, h⟩ := bindo h
      refine q_call (dst := some 36) rfl (.func _) (.cons (.tmp rfl) (.cons (.tmp rfl) Evs.nil)) (HInv.static strings_trimRightASCII.at_ strings_trimRightASCII.body (strings_trimRightASCII.snd  hp15)) ?_
      rintro _ _ ⟨rfl, rfl⟩
      obtain ⟨p16, hp16, h⟩ := bindo h
      refine q_call (dst := some 37) rfl (.func _) (.cons (.tmp rfl) (.cons (.tmp rfl) Evs.nil)) (HInv.static strings_trimLeftASCII.at_ strings_trimLeftASCII.body (strings_trimLeftASCII.snd  hp16)) ?_
      rintro _ _ ⟨rfl, rfl⟩
      refine qS 4 rfl (ok_assign · (.tmp rfl)) ?_
      refine hr_region_end ?_
      try dsimp only [w0, w1, w2, w3]
      cases h
      exact q_ret rfl at_.at_ rfl (res1 rfl rfl) ⟨rfl, rfl⟩
    · refine q_cond_f rfl (.tmp rfl) (bfalse hc14) ?_
      refine q_skipc rfl ?_
      refine q_seq rfl ?_
      refine q_region rfl rfl ?_
      refine qS 38 rfl (ok_move · (.tmp rfl)) ?_
      refine qS 39 rfl (ok_move · (.tmp rfl)) ?_
      obtain ⟨p17, hp17, h⟩ := bindo h
      refine q_call (dst := some 40) rfl (.func _) (.cons (.tmp rfl) (.cons (.tmp rfl) Evs.nil)) (HInv.static strings_trimRightUnicode.at_ strings_trimRightUnicode.body (strings_trimRightUnicode.snd  hp17)) ?_
      rintro _ _ ⟨rfl, rfl⟩
      refine qS 41 rfl (ok_move · (.tmp rfl)) ?_
      try dsimp only [w0, w1, w2, w3]
      obtain ⟨p18, hp18, h⟩ := bindo h
      refine q_call (dst := some 42) rfl (.func _) (.cons (.tmp rfl) (.cons (.tmp rfl) Evs.nil)) (HInv.static strings_trimLeftUnicode.at_ strings_trimLeftUnicode.body (strings_trimLeftUnicode.snd  hp18)) ?_
      rintro _ _ ⟨rfl, rfl⟩
      refine qS 4 rfl (ok_assign · (.tmp rfl)) ?_
      refine hr_region_end ?_
      try dsimp only [w0, w1, w2, w3]
      cases h
      exact q_ret rfl at_.at_ rfl (res1 rfl rfl) ⟨rfl, rfl⟩
def J0 (k : Nat) (y0 : (List UInt8)) (y1 : (List UInt8)) (y12 : Bool) (S : HS) : Option (((List UInt8)) × HS) :=
  (if y12 = true then
  some (y0, S) else
  (if (List.length y1 : Int) = 1 then
  (Option.bind (sat y1 0) fun p4 =>
  J1 k y0 y1 (decide ((UInt8.toNat p4 : Int) < 128)) S) else
  J1 k y0 y1 false S))
theorem J0_snd {k : Nat}  {y0 : (List UInt8)} {y1 : (List UInt8)} {y12 : Bool} {S : HS} {p : ((List UInt8)) × HS} {g2 g3 g4 g5 g6 g7 g8 g9 g10 g11 g13 g14 g15 g16 g17 g18 g19 g20 g21 g22 g23 g24 g25 g26 g27 g28 g29 g30 g31 g32 g33 g34 g35 g36 g37 g38 g39 g40 g41 g42 : HV} (h : J0 k y0 y1 y12 S = some p) : HRun Tryd.prog base W0 β0 29 none [.code c5, .code c10] ⟨[(.str y0), (.str y1), g2, g3, g4, g5, g6, g7, g8, g9, g10, g11, (.bool y12), g13, g14, g15, g16, g17, g18, g19, g20, g21, g22, g23, g24, g25, g26, g27, g28, g29, g30, g31, g32, g33, g34, g35, g36, g37, g38, g39, g40, g41, g42], []⟩ S (fun v S1 => v = (.str p.1) ∧ S1 = p.2) := by
  unfold J0 at h
  rcases ifc h with ⟨hc2, h⟩ | ⟨hc2, h⟩
  · refine q_cond_t rfl (.tmp rfl) hc2 ?_
    refine q_seq rfl ?_
    refine q_region rfl rfl ?_
    refine qS 13 rfl (ok_move · (.tmp rfl)) ?_
    refine qS 4 rfl (ok_assign · (.tmp rfl)) ?_
    refine hr_region_end ?_
    try dsimp only [w0, w1, w2, w3]
    cases h
    exact q_ret rfl at_.at_ rfl (res1 rfl rfl) ⟨rfl, rfl⟩
  · refine q_cond_f rfl (.tmp rfl) (bfalse hc2) ?_
    refine q_skipc rfl ?_
    refine q_seq rfl ?_
    refine q_seq rfl ?_
    refine q_region rfl rfl ?_
    refine qS 14 rfl (ok_move · (.tmp rfl)) ?_
    refine qS 15 rfl (ok_len_str · rfl tu9 (.tmp rfl)) ?_
    refine qS 16 rfl (ok_ibin · (.tmp rfl) (.int _ _) rfl) ?_
    refine qS 17 rfl (ok_move · (.tmp rfl)) ?_
    try dsimp only [w0, w1, w2, w3]
    rcases ifc h with ⟨hc3, h⟩ | ⟨hc3, h⟩
    · refine qG 17 18 rfl (decide_eq_true hc3) (ok_move · (.tmp rfl)) ?_
      obtain ⟨p4, hp4, h⟩ := bindo h
      refine qG 17 19 rfl (decide_eq_true hc3) (ok_index_s · tu9 (.tmp rfl) (.int _ _) hp4) ?_
      refine qG 17 20 rfl (decide_eq_true hc3) (ok_ibin · (.tmp rfl) (.int _ _) rfl) ?_
      refine qS 21 rfl (ok_pick_tt · (.tmp rfl) (decide_eq_true hc3) (.tmp rfl)) ?_
      refine hr_region_end ?_
      try dsimp only [w0, w1, w2, w3]
      try dsimp only [w0, w1, w2, w3]
      exact J1_snd  h
    · refine q_skip (dst := some 18) (t := 17) rfl rfl rfl (decide_eq_false hc3) ?_
      refine q_skip (dst := some 19) (t := 17) rfl rfl rfl (decide_eq_false hc3) ?_
      refine q_skip (dst := some 20) (t := 17) rfl rfl rfl (decide_eq_false hc3) ?_
      refine qS 21 rfl (ok_pick_ff · (.tmp rfl) (decide_eq_false hc3) (.bool _)) ?_
      refine hr_region_end ?_
      try dsimp only [w0, w1, w2, w3]
      try dsimp only [w0, w1, w2, w3]
      exact J1_snd  h
def f (k : Nat) (x0 : (List UInt8)) (x1 : (List UInt8)) (S : HS) : Option (((List UInt8)) × HS) :=
  (if x0 = ([] : List UInt8) then
  J0 k x0 x1 true S else
  J0 k x0 x1 (decide (x1 = ([] : List UInt8))) S)
theorem snd {k : Nat} {x0 : (List UInt8)} {x1 : (List UInt8)} {S : HS}  {p : ((List UInt8)) × HS} (h : f k x0 x1 S = some p) : HCall Tryd.prog base W0 β0 29 [(.str x0), (.str x1)] S (fun v S1 => v = (.str p.1) ∧ S1 = p.2) := by
  unfold f at h
  refine HCall.of_run at_.at_ body ?_
  show HRun Tryd.prog base W0 β0 29 none [.code c0] ⟨[(.str x0), (.str x1), τ, τ, τ, τ, τ, τ, τ, τ, τ, τ, τ, τ, τ, τ, τ, τ, τ, τ, τ, τ, τ, τ, τ, τ, τ, τ, τ, τ, τ, τ, τ, τ, τ, τ, τ, τ, τ, τ, τ, τ, τ], []⟩ S _
  refine q_seq rfl ?_
  refine q_region rfl rfl ?_
  refine qS 4 rfl (ok_assign · (.str _)) ?_
  refine hr_region_end ?_
  try dsimp only [w0, w1, w2, w3]
  refine q_seq rfl ?_
  refine q_seq rfl ?_
  refine q_region rfl rfl ?_
  refine qS 7 rfl (ok_move · (.tmp rfl)) ?_
  refine qS 8 rfl (ok_sbin · (.tmp rfl) (.str _) rfl) ?_
  refine qS 9 rfl (ok_move · (.tmp rfl)) ?_
  rcases ifc h with ⟨hc1, h⟩ | ⟨hc1, h⟩
  · refine q_skip (dst := some 10) (t := 9) rfl rfl rfl (decide_eq_true hc1) ?_
    try dsimp only [w0, w1, w2, w3]
    refine q_skip (dst := some 11) (t := 9) rfl rfl rfl (decide_eq_true hc1) ?_
    refine qS 12 rfl (ok_pick_tt · (.tmp rfl) (decide_eq_true hc1) (.bool _)) ?_
    refine hr_region_end ?_
    try dsimp only [w0, w1, w2, w3]
    try dsimp only [w0, w1, w2, w3]
    exact J0_snd  h
  · refine qG 9 10 rfl (decide_eq_false hc1) (ok_move · (.tmp rfl)) ?_
    try dsimp only [w0, w1, w2, w3]
    refine qG 9 11 rfl (decide_eq_false hc1) (ok_sbin · (.tmp rfl) (.str _) rfl) ?_
    refine qS 12 rfl (ok_pick_ff · (.tmp rfl) (decide_eq_false hc1) (.tmp rfl)) ?_
    refine hr_region_end ?_
    try dsimp only [w0, w1, w2, w3]
    try dsimp only [w0, w1, w2, w3]
    exact J0_snd  h
end
end strings_Trim
namespace glob_Match
theorem at_ : FnAt Tryd.prog 13 Tryd.f13 := ⟨Tryd.func13, by kernel_rfl⟩
noncomputable def d0 := (Tryd.f13.body).getD .skip
noncomputable def r1 := kR (kA d0)
noncomputable def r4 := kR (kA (kA (kB d0)))
noncomputable def d5 := kB (kA (kB d0))
noncomputable def r6 := kR (kA d5)
noncomputable def d10 := kA (kB (kB d5))
noncomputable def r14 := kR (kA (kA (kA (kA d10))))
noncomputable def d18 := kB (kA (kA d10))
noncomputable def d21 := kA (kA (kA d18))
noncomputable def r22 := kR (kA d21)
noncomputable def r25 := kR (kA (kA (kB d21)))
noncomputable def r27 := kR (kA (kB (kA (kB d21))))
noncomputable def r30 := kR (kA (kB (kB d21)))
noncomputable def d31 := kB (kB (kB d21))
noncomputable def r33 := kR (kA (kA d31))
noncomputable def r35 := kR (kA (kB (kA d31)))
noncomputable def r38 := kR (kA (kB d31))
noncomputable def r41 := kR (kA (kA (kB (kB d31))))
noncomputable def r45 := kR (kA (kB (kA d18)))
noncomputable def r46 := kR (kB (kB (kA d18)))
noncomputable def r48 := kR (kA (kB (kB (kB d5))))
noncomputable def c47 : Code := .seq (.region 14 r48 false) .ret
noncomputable def c44 : Code := .seq (.region 12 r45 false) (.region 13 r46 false)
noncomputable def c23 : Code := .cond (.tmp 13) (.seq (.region 5 r25 false) (.seq (.region 6 r27 false) (.exit 1))) (.seq (.region 7 r30 true) (.cond (.tmp 28) (.seq (.region 8 r33 false) (.seq (.region 9 r35 false) (.exit 1))) (.seq (.region 10 r38 false) (.cond (.tmp 46) (.seq (.region 11 r41 false) .ret) .skip))))
noncomputable def c12 : Code := .seq (.seq (.region 3 r14 false) (.cond (.tmp 12) .skip (.exit 0))) (.block 1 (.seq (.block 2 (.seq (.region 4 r22 false) c23)) c44))
noncomputable def c3 : Code := .seq (.region 1 r4 false) (.seq (.region 2 r6 false) (.seq (.label 0) (.seq (.block 0 (.loop c12)) c47)))
noncomputable def c0 : Code := .seq (.region 0 r1 false) (.scope c3)
theorem body : Tryd.f13.body = some c0 := by kernel_rfl
section
variable {base : Nat} {W0 : World} {β0 : Bt}
def J1 (k : Nat) (rec0 : (List UInt8) → (List UInt8) → Int → Int → Int → Int → HS → Option ((Bool) × HS)) (y0 : (List UInt8)) (y1 : (List UInt8)) (y5 : Int) (y6 : Int) (y7 : Int) (y8 : Int) (y23 : Bool) (S : HS) : Option ((Bool) × HS) :=
  (if y23 = true then
  rec0 y0 y1 y5 (w64 (y6 + 1)) y6 y5 S else
  (if y6 < (List.length y0 : Int) then
  (Option.bind (sat y0 y6) fun p6 =>
  (Option.bind (sat y1 y5) fun p7 =>
  (Option.bind (glob_one.f (UInt8.toNat p6 : Int) (UInt8.toNat p7 : Int)) fun p8 =>
  (if p8 = true then
  rec0 y0 y1 (w64 (y5 + 1)) (w64 (y6 + 1)) y7 y8 S else
  (if y7 < 0 then
  some (false, S) else
  rec0 y0 y1 (w64 (y8 + 1)) (w64 (y7 + 1)) y7 (w64 (y8 + 1)) S))))) else
  (if y7 < 0 then
  some (false, S) else
  rec0 y0 y1 (w64 (y8 + 1)) (w64 (y7 + 1)) y7 (w64 (y8 + 1)) S)))
theorem J1_snd {k : Nat} {rec0 : (List UInt8) → (List UInt8) → Int → Int → Int → Int → HS → Option ((Bool) × HS)} (hrec0 : ∀ ⦃y0 : (List UInt8)⦄ ⦃y1 : (List UInt8)⦄ ⦃y5 : Int⦄ ⦃y6 : Int⦄ ⦃y7 : Int⦄ ⦃y8 : Int⦄ ⦃S : HS⦄ ⦃p : (Bool) × HS⦄ ⦃g2 g3 g4 g9 g10 g11 g12 g13 g14 g15 g16 g17 g18 g19 g20 g21 g22 g23 g24 g25 g26 g27 g28 g29 g30 g31 g32 g33 g34 g35 g36 g37 g38 g39 g40 g41 g42 g43 g44 g45 g46 g47 g48 g49 g50 g51 g52 g53 g54 g55 g56 g57 g58 : HV⦄, rec0 y0 y1 y5 y6 y7 y8 S = some p → HRun Tryd.prog base W0 β0 13 none [.inLoop c12, .inBlock 0, .code c47, .inScope c3] ⟨[(.str y0), (.str y1), g2, g3, g4, (.int .i64 y5), (.int .i64 y6), (.int .i64 y7), (.int .i64 y8), g9, g10, g11, g12, g13, g14, g15, g16, g17, g18, g19, g20, g21, g22, g23, g24, g25, g26, g27, g28, g29, g30, g31, g32, g33, g34, g35, g36, g37, g38, g39, g40, g41, g42, g43, g44, g45, g46, g47, g48, g49, g50, g51, g52, g53, g54, g55, g56, g57, g58], []⟩ S (fun v S1 => v = (.bool p.1) ∧ S1 = p.2)) {y0 : (List UInt8)} {y1 : (List UInt8)} {y5 : Int} {y6 : Int} {y7 : Int} {y8 : Int} {y23 : Bool} {S : HS} {p : (Bool) × HS} {g2 g3 g4 g9 g10 g11 g12 g13 g14 g15 g16 g17 g18 g19 g20 g21 g22 g24 g25 g26 g27 g28 g29 g30 g31 g32 g33 g34 g35 g36 g37 g38 g39 g40 g41 g42 g43 g44 g45 g46 g47 g48 g49 g50 g51 g52 g53 g54 g55 g56 g57 g58 : HV} (h : J1 k rec0 y0 y1 y5 y6 y7 y8 y23 S = some p) : HRun Tryd.prog base W0 β0 13 none [.inRegion r22 [10], .code c23, .inBlock 2, .code c44, .inBlock 1, .inLoop c12, .inBlock 0, .code c47, .inScope c3] ⟨[(.str y0), (.str y1), g2, g3, g4, (.int .i64 y5), (.int .i64 y6), (.int .i64 y7), (.int .i64 y8), g9, g10, g11, g12, g13, g14, g15, g16, g17, g18, g19, g20, g21, g22, (.bool y23), g24, g25, g26, g27, g28, g29, g30, g31, g32, g33, g34, g35, g36, g37, g38, g39, g40, g41, g42, g43, g44, g45, g46, g47, g48, g49, g50, g51, g52, g53, g54, g55, g56, g57, g58], []⟩ S (fun v S1 => v = (.bool p.1) ∧ S1 = p.2) := by
  unfold J1 at h
  refine qS 13 rfl (ok_assign · (.tmp rfl)) ?_
  refine hr_region_end ?_
  try dsimp only [w0, w1, w2, w3]
  rcases ifc h with ⟨hc4, h⟩ | ⟨hc4, h⟩
  · refine q_cond_t rfl (.tmp rfl) hc4 ?_
    refine q_seq rfl ?_
    refine q_region rfl rfl ?_
    refine qS 24 rfl (ok_move · (.tmp rfl)) ?_
    refine qS 25 rfl (ok_move · (.tmp rfl)) ?_
    refine qS 7 rfl (ok_assign · (.tmp rfl)) ?_
    refine qS 8 rfl (ok_assign · (.tmp rfl)) ?_
    refine hr_region_end ?_
    try dsimp only [w0, w1, w2, w3]
    refine q_seq rfl ?_
    refine q_region rfl rfl ?_
    refine qS 26 rfl (ok_move · (.tmp rfl)) ?_
    refine qS 27 rfl (ok_ibin · (.tmp rfl) (.int _ _) rfl) ?_
    refine qS 6 rfl (ok_assign · (.tmp rfl)) ?_
    refine hr_region_end ?_
    try dsimp only [w0, w1, w2, w3]
    refine q_exit rfl rfl ?_
    try dsimp only [w0, w1, w2, w3]
    exact hrec0 h
  · refine q_cond_f rfl (.tmp rfl) (bfalse hc4) ?_
    refine q_seq rfl ?_
    refine x_start (cls := [0, 0, 0, 0, 0, 0, 0, 0, 0, 0, 0, 0, 0, 0]) (rk := [0, 1, 2, 3, 4, 5, 6, 7, 8, 9, 10, 11, 12, 13]) rfl (by kernel_rfl) ?_
    refine yf 29 [6] rfl (ok_move · (.tmp rfl)) ?_
    refine yf 30 [0] rfl (ok_move · (.tmp rfl)) ?_
    refine yf 31 [30] rfl (ok_len_str · rfl tu9 (.tmp rfl)) ?_
    refine yf 32 [29, 31] rfl (ok_ibin · (.tmp rfl) (.tmp rfl) rfl) ?_
    try dsimp only [w0, w1, w2, w3]
    refine yf 33 [32] rfl (ok_move · (.tmp rfl)) ?_
    rcases ifc h with ⟨hc5, h⟩ | ⟨hc5, h⟩
    · refine yfg 34 33 [0, 33] rfl (decide_eq_true hc5) (ok_move · (.tmp rfl)) ?_
      refine yfg 35 33 [6, 33] rfl (decide_eq_true hc5) (ok_move · (.tmp rfl)) ?_
      obtain ⟨p6, hp6, h⟩ := bindo h
      refine yfg 36 33 [34, 35, 33] rfl (decide_eq_true hc5) (ok_index_s · tu9 (.tmp rfl) (.tmp rfl) hp6) ?_
      try dsimp only [w0, w1, w2, w3]
      refine yfg 37 33 [1, 33] rfl (decide_eq_true hc5) (ok_move · (.tmp rfl)) ?_
      refine yfg 38 33 [5, 33] rfl (decide_eq_true hc5) (ok_move · (.tmp rfl)) ?_
      obtain ⟨p7, hp7, h⟩ := bindo h
      refine yfg 39 33 [37, 38, 33] rfl (decide_eq_true hc5) (ok_index_s · tu9 (.tmp rfl) (.tmp rfl) hp7) ?_
      obtain ⟨p8, hp8, h⟩ := bindo h
      refine x_go (f_call_g (dst := some 40) (t := 33) (ts := [36, 39, 33]) rfl (by kernel_rfl) rfl rfl (decide_eq_true hc5) (.func _) (.cons (.tmp rfl) (.cons (.tmp rfl) Evs.nil)) (fun _ => (HInv.static glob_one.at_ glob_one.body (glob_one.snd  hp8)))) rfl ?_
      try dsimp only [w0, w1, w2, w3]
      refine yf 41 [33, 40] rfl (ok_pick_tt · (.tmp rfl) (decide_eq_true hc5) (.tmp rfl)) ?_
      refine yf 28 [41] rfl (ok_assign · (.tmp rfl)) ?_
      refine x_rest rfl ?_
      refine hr_region_end ?_
      try dsimp only [w0, w1, w2, w3]
      rcases ifc h with ⟨hc9, h⟩ | ⟨hc9, h⟩
      · refine q_cond_t rfl (.tmp rfl) hc9 ?_
        refine q_seq rfl ?_
        refine q_region rfl rfl ?_
        refine qS 42 rfl (ok_move · (.tmp rfl)) ?_
        refine qS 43 rfl (ok_ibin · (.tmp rfl) (.int _ _) rfl) ?_
        refine qS 5 rfl (ok_assign · (.tmp rfl)) ?_
        refine hr_region_end ?_
        try dsimp only [w0, w1, w2, w3]
        refine q_seq rfl ?_
        refine q_region rfl rfl ?_
        refine qS 44 rfl (ok_move · (.tmp rfl)) ?_
        refine qS 45 rfl (ok_ibin · (.tmp rfl) (.int _ _) rfl) ?_
        refine qS 6 rfl (ok_assign · (.tmp rfl)) ?_
        refine hr_region_end ?_
        try dsimp only [w0, w1, w2, w3]
        refine q_exit rfl rfl ?_
        try dsimp only [w0, w1, w2, w3]
        exact hrec0 h
      · refine q_cond_f rfl (.tmp rfl) (bfalse hc9) ?_
        refine q_seq rfl ?_
        refine q_region rfl rfl ?_
        refine qS 47 rfl (ok_move · (.tmp rfl)) ?_
        refine qS 48 rfl (ok_ibin · (.tmp rfl) (.int _ _) rfl) ?_
        refine qS 46 rfl (ok_assign · (.tmp rfl)) ?_
        refine hr_region_end ?_
        try dsimp only [w0, w1, w2, w3]
        rcases ifc h with ⟨hc10, h⟩ | ⟨hc10, h⟩
        · refine q_cond_t rfl (.tmp rfl) (decide_eq_true hc10) ?_
          refine q_seq rfl ?_
          refine q_region rfl rfl ?_
          refine qS 4 rfl (ok_assign · (.bool _)) ?_
          refine hr_region_end ?_
          try dsimp only [w0, w1, w2, w3]
          cases h
          exact q_ret rfl at_.at_ rfl (res1 rfl rfl) ⟨rfl, rfl⟩
        · refine q_cond_f rfl (.tmp rfl) (decide_eq_false hc10) ?_
          refine q_skipc rfl ?_
          refine hr_inBlock ?_
          refine q_seq rfl ?_
          refine q_region rfl rfl ?_
          refine qS 49 rfl (ok_move · (.tmp rfl)) ?_
          refine qS 50 rfl (ok_ibin · (.tmp rfl) (.int _ _) rfl) ?_
          refine qS 8 rfl (ok_assign · (.tmp rfl)) ?_
          refine hr_region_end ?_
          try dsimp only [w0, w1, w2, w3]
          refine q_region rfl rfl ?_
          refine qS 51 rfl (ok_move · (.tmp rfl)) ?_
          refine qS 52 rfl (ok_move · (.tmp rfl)) ?_
          refine qS 53 rfl (ok_ibin · (.tmp rfl) (.int _ _) rfl) ?_
          refine qS 5 rfl (ok_assign · (.tmp rfl)) ?_
          try dsimp only [w0, w1, w2, w3]
          refine qS 6 rfl (ok_assign · (.tmp rfl)) ?_
          refine hr_region_end ?_
          try dsimp only [w0, w1, w2, w3]
          refine hr_inBlock ?_
          try dsimp only [w0, w1, w2, w3]
          exact hrec0 h
    · refine yfs 34 33 [0, 33] rfl (decide_eq_false hc5) ?_
      refine yfs 35 33 [6, 33] rfl (decide_eq_false hc5) ?_
      refine yfs 36 33 [34, 35, 33] rfl (decide_eq_false hc5) ?_
      try dsimp only [w0, w1, w2, w3]
      refine yfs 37 33 [1, 33] rfl (decide_eq_false hc5) ?_
      refine yfs 38 33 [5, 33] rfl (decide_eq_false hc5) ?_
      refine yfs 39 33 [37, 38, 33] rfl (decide_eq_false hc5) ?_
      refine yfs 40 33 [36, 39, 33] rfl (decide_eq_false hc5) ?_
      try dsimp only [w0, w1, w2, w3]
      refine yf 41 [33, 40] rfl (ok_pick_ff · (.tmp rfl) (decide_eq_false hc5) (.bool _)) ?_
      refine yf 28 [41] rfl (ok_assign · (.tmp rfl)) ?_
      refine x_rest rfl ?_
      refine hr_region_end ?_
      try dsimp only [w0, w1, w2, w3]
      refine q_cond_f rfl (.tmp rfl) rfl ?_
      refine q_seq rfl ?_
      refine q_region rfl rfl ?_
      refine qS 47 rfl (ok_move · (.tmp rfl)) ?_
      refine qS 48 rfl (ok_ibin · (.tmp rfl) (.int _ _) rfl) ?_
      refine qS 46 rfl (ok_assign · (.tmp rfl)) ?_
      refine hr_region_end ?_
      try dsimp only [w0, w1, w2, w3]
      rcases ifc h with ⟨hc11, h⟩ | ⟨hc11, h⟩
      · refine q_cond_t rfl (.tmp rfl) (decide_eq_true hc11) ?_
        refine q_seq rfl ?_
        refine q_region rfl rfl ?_
        refine qS 4 rfl (ok_assign · (.bool _)) ?_
        refine hr_region_end ?_
        try dsimp only [w0, w1, w2, w3]
        cases h
        exact q_ret rfl at_.at_ rfl (res1 rfl rfl) ⟨rfl, rfl⟩
      · refine q_cond_f rfl (.tmp rfl) (decide_eq_false hc11) ?_
        refine q_skipc rfl ?_
        refine hr_inBlock ?_
        refine q_seq rfl ?_
        refine q_region rfl rfl ?_
        refine qS 49 rfl (ok_move · (.tmp rfl)) ?_
        refine qS 50 rfl (ok_ibin · (.tmp rfl) (.int _ _) rfl) ?_
        refine qS 8 rfl (ok_assign · (.tmp rfl)) ?_
        refine hr_region_end ?_
        try dsimp only [w0, w1, w2, w3]
        refine q_region rfl rfl ?_
        refine qS 51 rfl (ok_move · (.tmp rfl)) ?_
        refine qS 52 rfl (ok_move · (.tmp rfl)) ?_
        refine qS 53 rfl (ok_ibin · (.tmp rfl) (.int _ _) rfl) ?_
        refine qS 5 rfl (ok_assign · (.tmp rfl)) ?_
        try dsimp only [w0, w1, w2, w3]
        refine qS 6 rfl (ok_assign · (.tmp rfl)) ?_
        refine hr_region_end ?_
        try dsimp only [w0, w1, w2, w3]
        refine hr_inBlock ?_
        try dsimp only [w0, w1, w2, w3]
        exact hrec0 h
def L0 (k : Nat) : Nat → (List UInt8) → (List UInt8) → Int → Int → Int → Int → HS → Option ((Bool) × HS)
  | 0, _, _, _, _, _, _, _ => none
  | n + 1, y0, y1, y5, y6, y7, y8, S =>
    (if y5 < (List.length y1 : Int) then
    (if y6 < (List.length y0 : Int) then
    (Option.bind (sat y0 y6) fun p3 =>
    J1 k (L0 k n) y0 y1 y5 y6 y7 y8 (decide ((UInt8.toNat p3 : Int) = 42)) S) else
    J1 k (L0 k n) y0 y1 y5 y6 y7 y8 false S) else
    (if 0 ≤ (y6 : Int) ∧ (y6 : Int) ≤ (List.length y0 : Int) ∧ ((List.length y0 : Int) : Int) ≤ (List.length y0 : Int) then
    (Option.bind (strings_Trim.f k (ssub y0 y6 (List.length y0 : Int)) ([42] : List UInt8) S) fun p13 =>
    some ((decide (p13.1 = ([] : List UInt8))), p13.2)) else none))
theorem L0_snd {k : Nat}  : ∀ {n : Nat} ⦃y0 : (List UInt8)⦄ ⦃y1 : (List UInt8)⦄ ⦃y5 : Int⦄ ⦃y6 : Int⦄ ⦃y7 : Int⦄ ⦃y8 : Int⦄ ⦃S : HS⦄ ⦃p : (Bool) × HS⦄ ⦃g2 g3 g4 g9 g10 g11 g12 g13 g14 g15 g16 g17 g18 g19 g20 g21 g22 g23 g24 g25 g26 g27 g28 g29 g30 g31 g32 g33 g34 g35 g36 g37 g38 g39 g40 g41 g42 g43 g44 g45 g46 g47 g48 g49 g50 g51 g52 g53 g54 g55 g56 g57 g58 : HV⦄, L0 k n y0 y1 y5 y6 y7 y8 S = some p → HRun Tryd.prog base W0 β0 13 none [.inLoop c12, .inBlock 0, .code c47, .inScope c3] ⟨[(.str y0), (.str y1), g2, g3, g4, (.int .i64 y5), (.int .i64 y6), (.int .i64 y7), (.int .i64 y8), g9, g10, g11, g12, g13, g14, g15, g16, g17, g18, g19, g20, g21, g22, g23, g24, g25, g26, g27, g28, g29, g30, g31, g32, g33, g34, g35, g36, g37, g38, g39, g40, g41, g42, g43, g44, g45, g46, g47, g48, g49, g50, g51, g52, g53, g54, g55, g56, g57, g58], []⟩ S (fun v S1 => v = (.bool p.1) ∧ S1 = p.2) := by
  intro n
  induction n with
  | zero => intro _ _ _ _ _ _ _ _ _ _ _ _ _ _ _ _ _ _ _ _ _ _ _ _ _ _ _ _ _ _ _ _ _ _ _ _ _ _ _ _ _ _ _ _ _ _ _ _ _ _ _ _ _ _ _ _ _ _ _ _ _ h; cases h
  | succ n ih =>
    intro y0 y1 y5 y6 y7 y8 S p g2 g3 g4 g9 g10 g11 g12 g13 g14 g15 g16 g17 g18 g19 g20 g21 g22 g23 g24 g25 g26 g27 g28 g29 g30 g31 g32 g33 g34 g35 g36 g37 g38 g39 g40 g41 g42 g43 g44 g45 g46 g47 g48 g49 g50 g51 g52 g53 g54 g55 g56 g57 g58 h
    simp only [L0] at h
    refine hr_inLoop ?_
    refine q_seq rfl ?_
    refine q_seq rfl ?_
    refine q_region rfl rfl ?_
    refine qS 9 rfl (ok_move · (.tmp rfl)) ?_
    refine qS 10 rfl (ok_move · (.tmp rfl)) ?_
    refine qS 11 rfl (ok_len_str · rfl tu9 (.tmp rfl)) ?_
    refine qS 12 rfl (ok_ibin · (.tmp rfl) (.tmp rfl) rfl) ?_
    refine hr_region_end ?_
    try dsimp only [w0, w1, w2, w3]
    rcases ifc h with ⟨hc1, h⟩ | ⟨hc1, h⟩
    · refine q_cond_t rfl (.tmp rfl) (decide_eq_true hc1) ?_
      refine q_skipc rfl ?_
      refine q_block rfl ?_
      refine q_seq rfl ?_
      refine q_block rfl ?_
      refine q_seq rfl ?_
      refine q_region rfl rfl ?_
      refine qS 14 rfl (ok_move · (.tmp rfl)) ?_
      refine qS 15 rfl (ok_move · (.tmp rfl)) ?_
      refine qS 16 rfl (ok_len_str · rfl tu9 (.tmp rfl)) ?_
      refine qS 17 rfl (ok_ibin · (.tmp rfl) (.tmp rfl) rfl) ?_
      try dsimp only [w0, w1, w2, w3]
      refine qS 18 rfl (ok_move · (.tmp rfl)) ?_
      rcases ifc h with ⟨hc2, h⟩ | ⟨hc2, h⟩
      · refine qG 18 19 rfl (decide_eq_true hc2) (ok_move · (.tmp rfl)) ?_
        refine qG 18 20 rfl (decide_eq_true hc2) (ok_move · (.tmp rfl)) ?_
        obtain ⟨p3, hp3, h⟩ := bindo h
        refine qG 18 21 rfl (decide_eq_true hc2) (ok_index_s · tu9 (.tmp rfl) (.tmp rfl) hp3) ?_
        try dsimp only [w0, w1, w2, w3]
        refine qG 18 22 rfl (decide_eq_true hc2) (ok_ibin · (.tmp rfl) (.int _ _) rfl) ?_
        refine qS 23 rfl (ok_pick_tt · (.tmp rfl) (decide_eq_true hc2) (.tmp rfl)) ?_
        try dsimp only [w0, w1, w2, w3]
        exact J1_snd ih h
      · refine q_skip (dst := some 19) (t := 18) rfl rfl rfl (decide_eq_false hc2) ?_
        refine q_skip (dst := some 20) (t := 18) rfl rfl rfl (decide_eq_false hc2) ?_
        refine q_skip (dst := some 21) (t := 18) rfl rfl rfl (decide_eq_false hc2) ?_
        try dsimp only [w0, w1, w2, w3]
        refine q_skip (dst := some 22) (t := 18) rfl rfl rfl (decide_eq_false hc2) ?_
        refine qS 23 rfl (ok_pick_ff · (.tmp rfl) (decide_eq_false hc2) (.bool _)) ?_
        try dsimp only [w0, w1, w2, w3]
        exact J1_snd ih h
    · refine q_cond_f rfl (.tmp rfl) (decide_eq_false hc1) ?_
      refine q_exit rfl rfl ?_
      refine q_seq rfl ?_
      refine q_region rfl rfl ?_
      refine qS 54 rfl (ok_move · (.tmp rfl)) ?_
      refine qS 55 rfl (ok_move · (.tmp rfl)) ?_
      obtain ⟨hg12, h⟩ := gd h
      refine qS 56 rfl (ok_slice_str (kl := .i64) (kh := .i64) (l := y6) (h := (List.length y0 : Int)) · tu9 (.tmp rfl) (.inr ⟨_, rfl, (.tmp rfl)⟩) (.inl ⟨rfl, rfl⟩) hg12.1 hg12.2.1 hg12.2.2) ?_
      obtain ⟨p13, hp13, h⟩ := bindo h
      refine q_call (dst := some 57) rfl (.func _) (.cons (.tmp rfl) (.cons (.str _) Evs.nil)) (HInv.static strings_Trim.at_ strings_Trim.body (strings_Trim.snd  hp13)) ?_
      rintro _ _ ⟨rfl, rfl⟩
      try dsimp only [w0, w1, w2, w3]
      refine qS 58 rfl (ok_sbin · (.tmp rfl) (.str _) rfl) ?_
      refine qS 4 rfl (ok_assign · (.tmp rfl)) ?_
      refine hr_region_end ?_
      try dsimp only [w0, w1, w2, w3]
      cases h
      exact q_ret rfl at_.at_ rfl (res1 rfl rfl) ⟨rfl, rfl⟩
def f (k : Nat) (x0 : (List UInt8)) (x1 : (List UInt8)) (S : HS) : Option ((Bool) × HS) :=
  L0 k k x0 x1 0 0 (-1) 0 S
theorem snd {k : Nat} {x0 : (List UInt8)} {x1 : (List UInt8)} {S : HS}  {p : (Bool) × HS} (h : f k x0 x1 S = some p) : HCall Tryd.prog base W0 β0 13 [(.str x0), (.str x1)] S (fun v S1 => v = (.bool p.1) ∧ S1 = p.2) := by
  unfold f at h
  refine HCall.of_run at_.at_ body ?_
  show HRun Tryd.prog base W0 β0 13 none [.code c0] ⟨[(.str x0), (.str x1), τ, τ, τ, τ, τ, τ, τ, τ, τ, τ, τ, τ, τ, τ, τ, τ, τ, τ, τ, τ, τ, τ, τ, τ, τ, τ, τ, τ, τ, τ, τ, τ, τ, τ, τ, τ, τ, τ, τ, τ, τ, τ, τ, τ, τ, τ, τ, τ, τ, τ, τ, τ, τ, τ, τ, τ, τ], []⟩ S _
  refine q_seq rfl ?_
  refine q_region rfl rfl ?_
  refine qS 4 rfl (ok_assign · (.bool _)) ?_
  refine hr_region_end ?_
  try dsimp only [w0, w1, w2, w3]
  refine q_scope rfl ?_
  refine q_seq rfl ?_
  refine q_region rfl rfl ?_
  refine qS 5 rfl (ok_assign · (.int _ _)) ?_
  refine qS 6 rfl (ok_assign · (.int _ _)) ?_
  refine hr_region_end ?_
  try dsimp only [w0, w1, w2, w3]
  refine q_seq rfl ?_
  refine q_region rfl rfl ?_
  refine qS 7 rfl (ok_assign · (.int _ _)) ?_
  refine qS 8 rfl (ok_assign · (.int _ _)) ?_
  refine hr_region_end ?_
  try dsimp only [w0, w1, w2, w3]
  refine q_seq rfl ?_
  refine q_label rfl ?_
  refine q_seq rfl ?_
  refine q_block rfl ?_
  refine q_loop rfl ?_
  try dsimp only [w0, w1, w2, w3]
  exact L0_snd  h
end
end glob_Match
namespace rollcalllaw04_awake
theorem at_ : FnAt Tryd.prog 9 Tryd.f9 := ⟨Tryd.func9, by kernel_rfl⟩
noncomputable def d0 := (Tryd.f9.body).getD .skip
noncomputable def r1 := kR (kA d0)
noncomputable def r3 := kR (kA (kB d0))
noncomputable def c4 : Code := .ret
noncomputable def c0 : Code := .seq (.region 0 r1 false) (.seq (.region 1 r3 false) c4)
theorem body : Tryd.f9.body = some c0 := by kernel_rfl
section
variable {base : Nat} {W0 : World} {β0 : Bt}
def J3 (k : Nat) (y17 : Bool) (S : HS) : Option ((Bool) × HS) :=
  some (y17, S)
theorem J3_snd {k : Nat}  {y17 : Bool} {S : HS} {p : (Bool) × HS} {g0 g1 g2 g3 g4 g5 g6 g7 g8 g9 g10 g11 g12 g13 g14 g15 g16 : HV} (h : J3 k y17 S = some p) : HRun Tryd.prog base W0 β0 9 none [.inRegion r3 [17], .code c4] ⟨[g0, g1, g2, g3, g4, g5, g6, g7, g8, g9, g10, g11, g12, g13, g14, g15, g16, (.bool y17)], []⟩ S (fun v S1 => v = (.bool p.1) ∧ S1 = p.2) := by
  unfold J3 at h
  refine qS 0 rfl (ok_assign · (.tmp rfl)) ?_
  refine hr_region_end ?_
  try dsimp only [w0, w1, w2, w3]
  cases h
  exact q_ret rfl at_.at_ rfl (res1 rfl rfl) ⟨rfl, rfl⟩
def J2 (k : Nat) (y14 : Bool) (S : HS) : Option ((Bool) × HS) :=
  (if y14 = true then
  (Option.bind (glob_Match.f k ([66, 42, 98] : List UInt8) ([98, 111, 98] : List UInt8) S) fun p9 =>
  J3 k p9.1 p9.2) else
  J3 k false S)
theorem J2_snd {k : Nat}  {y14 : Bool} {S : HS} {p : (Bool) × HS} {g0 g1 g2 g3 g4 g5 g6 g7 g8 g9 g10 g11 g12 g13 g15 g16 g17 : HV} (h : J2 k y14 S = some p) : HRun Tryd.prog base W0 β0 9 none [.inRegion r3 [14, 15, 16, 17], .code c4] ⟨[g0, g1, g2, g3, g4, g5, g6, g7, g8, g9, g10, g11, g12, g13, (.bool y14), g15, g16, g17], []⟩ S (fun v S1 => v = (.bool p.1) ∧ S1 = p.2) := by
  unfold J2 at h
  refine qS 15 rfl (ok_move · (.tmp rfl)) ?_
  rcases ifc h with ⟨hc8, h⟩ | ⟨hc8, h⟩
  · obtain ⟨p9, hp9, h⟩ := bindo h
    refine q_call_g (t := 15) (dst := some 16) rfl rfl rfl hc8 (.func _) (.cons (.str _) (.cons (.str _) Evs.nil)) (HInv.static glob_Match.at_ glob_Match.body (glob_Match.snd  hp9)) ?_
    rintro _ _ ⟨rfl, rfl⟩
    try dsimp only [w0, w1, w2, w3]
    refine qS 17 rfl (ok_pick_tt · (.tmp rfl) hc8 (.tmp rfl)) ?_
    try dsimp only [w0, w1, w2, w3]
    exact J3_snd  h
  · refine q_skip (dst := some 16) (t := 15) rfl rfl rfl (bfalse hc8) ?_
    try dsimp only [w0, w1, w2, w3]
    refine qS 17 rfl (ok_pick_ff · (.tmp rfl) (bfalse hc8) (.bool _)) ?_
    try dsimp only [w0, w1, w2, w3]
    exact J3_snd  h
def J1 (k : Nat) (y10 : Bool) (S : HS) : Option ((Bool) × HS) :=
  (if y10 = true then
  (Option.bind (glob_Short.f k ([42, 63, 42, 42, 63] : List UInt8) S) fun p7 =>
  J2 k (decide (p7.1 = ([63, 63, 42] : List UInt8))) p7.2) else
  J2 k false S)
theorem J1_snd {k : Nat}  {y10 : Bool} {S : HS} {p : (Bool) × HS} {g0 g1 g2 g3 g4 g5 g6 g7 g8 g9 g11 g12 g13 g14 g15 g16 g17 : HV} (h : J1 k y10 S = some p) : HRun Tryd.prog base W0 β0 9 none [.inRegion r3 [10, 11, 12, 13, 14, 15, 16, 17], .code c4] ⟨[g0, g1, g2, g3, g4, g5, g6, g7, g8, g9, (.bool y10), g11, g12, g13, g14, g15, g16, g17], []⟩ S (fun v S1 => v = (.bool p.1) ∧ S1 = p.2) := by
  unfold J1 at h
  refine qS 11 rfl (ok_move · (.tmp rfl)) ?_
  rcases ifc h with ⟨hc6, h⟩ | ⟨hc6, h⟩
  · obtain ⟨p7, hp7, h⟩ := bindo h
    refine q_call_g (t := 11) (dst := some 12) rfl rfl rfl hc6 (.func _) (.cons (.str _) Evs.nil) (HInv.static glob_Short.at_ glob_Short.body (glob_Short.snd  hp7)) ?_
    rintro _ _ ⟨rfl, rfl⟩
    try dsimp only [w0, w1, w2, w3]
    refine qG 11 13 rfl hc6 (ok_sbin · (.tmp rfl) (.str _) rfl) ?_
    refine qS 14 rfl (ok_pick_tt · (.tmp rfl) hc6 (.tmp rfl)) ?_
    try dsimp only [w0, w1, w2, w3]
    exact J2_snd  h
  · refine q_skip (dst := some 12) (t := 11) rfl rfl rfl (bfalse hc6) ?_
    try dsimp only [w0, w1, w2, w3]
    refine q_skip (dst := some 13) (t := 11) rfl rfl rfl (bfalse hc6) ?_
    refine qS 14 rfl (ok_pick_ff · (.tmp rfl) (bfalse hc6) (.bool _)) ?_
    try dsimp only [w0, w1, w2, w3]
    exact J2_snd  h
def J0 (k : Nat) (y6 : Bool) (S : HS) : Option ((Bool) × HS) :=
  (if y6 = true then
  (Option.bind (glob_Complete.f k ([97, 33, 98] : List UInt8) S) fun p5 =>
  J1 k (decide (p5.1 = ([97, 33, 98, 64, 42] : List UInt8))) p5.2) else
  J1 k false S)
theorem J0_snd {k : Nat}  {y6 : Bool} {S : HS} {p : (Bool) × HS} {g0 g1 g2 g3 g4 g5 g7 g8 g9 g10 g11 g12 g13 g14 g15 g16 g17 : HV} (h : J0 k y6 S = some p) : HRun Tryd.prog base W0 β0 9 none [.inRegion r3 [6, 7, 8, 9, 10, 11, 12, 13, 14, 15, 16, 17], .code c4] ⟨[g0, g1, g2, g3, g4, g5, (.bool y6), g7, g8, g9, g10, g11, g12, g13, g14, g15, g16, g17], []⟩ S (fun v S1 => v = (.bool p.1) ∧ S1 = p.2) := by
  unfold J0 at h
  refine qS 7 rfl (ok_move · (.tmp rfl)) ?_
  rcases ifc h with ⟨hc4, h⟩ | ⟨hc4, h⟩
  · obtain ⟨p5, hp5, h⟩ := bindo h
    refine q_call_g (t := 7) (dst := some 8) rfl rfl rfl hc4 (.func _) (.cons (.str _) Evs.nil) (HInv.static glob_Complete.at_ glob_Complete.body (glob_Complete.snd  hp5)) ?_
    rintro _ _ ⟨rfl, rfl⟩
    try dsimp only [w0, w1, w2, w3]
    refine qG 7 9 rfl hc4 (ok_sbin · (.tmp rfl) (.str _) rfl) ?_
    refine qS 10 rfl (ok_pick_tt · (.tmp rfl) hc4 (.tmp rfl)) ?_
    try dsimp only [w0, w1, w2, w3]
    exact J1_snd  h
  · refine q_skip (dst := some 8) (t := 7) rfl rfl rfl (bfalse hc4) ?_
    try dsimp only [w0, w1, w2, w3]
    refine q_skip (dst := some 9) (t := 7) rfl rfl rfl (bfalse hc4) ?_
    refine qS 10 rfl (ok_pick_ff · (.tmp rfl) (bfalse hc4) (.bool _)) ?_
    try dsimp only [w0, w1, w2, w3]
    exact J1_snd  h
def f (k : Nat) (S : HS) : Option ((Bool) × HS) :=
  (Option.bind (glob_Complete.f k ([98, 111, 98] : List UInt8) S) fun p1 =>
  (if p1.1 = ([98, 111, 98, 33, 42, 64, 42] : List UInt8) then
  (Option.bind (glob_Complete.f k ([117, 64, 104] : List UInt8) p1.2) fun p3 =>
  J0 k (decide (p3.1 = ([42, 33, 117, 64, 104] : List UInt8))) p3.2) else
  J0 k false p1.2))
theorem snd {k : Nat} {S : HS}  {p : (Bool) × HS} (h : f k S = some p) : HCall Tryd.prog base W0 β0 9 [] S (fun v S1 => v = (.bool p.1) ∧ S1 = p.2) := by
  unfold f at h
  refine HCall.of_run at_.at_ body ?_
  show HRun Tryd.prog base W0 β0 9 none [.code c0] ⟨[τ, τ, τ, τ, τ, τ, τ, τ, τ, τ, τ, τ, τ, τ, τ, τ, τ, τ], []⟩ S _
  refine q_seq rfl ?_
  refine q_region rfl rfl ?_
  refine qS 0 rfl (ok_assign · (.bool _)) ?_
  refine hr_region_end ?_
  try dsimp only [w0, w1, w2, w3]
  refine q_seq rfl ?_
  refine q_region rfl rfl ?_
  obtain ⟨p1, hp1, h⟩ := bindo h
  refine q_call (dst := some 1) rfl (.func _) (.cons (.str _) Evs.nil) (HInv.static glob_Complete.at_ glob_Complete.body (glob_Complete.snd  hp1)) ?_
  rintro _ _ ⟨rfl, rfl⟩
  refine qS 2 rfl (ok_sbin · (.tmp rfl) (.str _) rfl) ?_
  refine qS 3 rfl (ok_move · (.tmp rfl)) ?_
  rcases ifc h with ⟨hc2, h⟩ | ⟨hc2, h⟩
  · obtain ⟨p3, hp3, h⟩ := bindo h
    refine q_call_g (t := 3) (dst := some 4) rfl rfl rfl (decide_eq_true hc2) (.func _) (.cons (.str _) Evs.nil) (HInv.static glob_Complete.at_ glob_Complete.body (glob_Complete.snd  hp3)) ?_
    rintro _ _ ⟨rfl, rfl⟩
    try dsimp only [w0, w1, w2, w3]
    refine qG 3 5 rfl (decide_eq_true hc2) (ok_sbin · (.tmp rfl) (.str _) rfl) ?_
    refine qS 6 rfl (ok_pick_tt · (.tmp rfl) (decide_eq_true hc2) (.tmp rfl)) ?_
    try dsimp only [w0, w1, w2, w3]
    exact J0_snd  h
  · refine q_skip (dst := some 4) (t := 3) rfl rfl rfl (decide_eq_false hc2) ?_
    try dsimp only [w0, w1, w2, w3]
    refine q_skip (dst := some 5) (t := 3) rfl rfl rfl (decide_eq_false hc2) ?_
    refine qS 6 rfl (ok_pick_ff · (.tmp rfl) (decide_eq_false hc2) (.bool _)) ?_
    try dsimp only [w0, w1, w2, w3]
    exact J0_snd  h
end
end rollcalllaw04_awake
namespace rollcallref04_Short
theorem at_ : FnAt Tryd.prog 19 Tryd.f19 := ⟨Tryd.func19, by kernel_rfl⟩
noncomputable def d0 := (Tryd.f19.body).getD .skip
noncomputable def r1 := kR (kA d0)
noncomputable def r3 := kR (kA (kB d0))
noncomputable def d5 := kA (kB (kB d0))
noncomputable def r6 := kR (kA d5)
noncomputable def d9 := kA (kA (kB d5))
noncomputable def r11 := kR (kA (kA d9))
noncomputable def d17 := kA (kA (kB d9))
noncomputable def r18 := kR (kA d17)
noncomputable def r20 := kR (kA (kB d17))
noncomputable def r22 := kR (kA (kB (kB d17)))
noncomputable def r24 := kR (kA (kB (kB (kB d17))))
noncomputable def r26 := kR (kA (kB (kB (kB (kB d17)))))
noncomputable def r28 := kR (kB (kB d9))
noncomputable def r30 := kR (kA (kB (kB (kB d0))))
noncomputable def c29 : Code := .seq (.region 10 r30 false) .ret
noncomputable def c28 : Code := .region 4 r28 false
noncomputable def c25 : Code := .cond (.tmp 48) (.region 9 r26 false) .skip
noncomputable def c21 : Code := .cond (.tmp 28) (.region 7 r22 false) (.seq (.region 8 r24 false) c25)
noncomputable def c9 : Code := .seq (.seq (.region 3 r11 false) (.cond (.tmp 9) .skip (.exit 0))) (.seq (.block 1 (.seq (.region 5 r18 false) (.seq (.region 6 r20 false) c21))) c28)
noncomputable def c0 : Code := .seq (.region 0 r1 false) (.seq (.region 1 r3 false) (.seq (.seq (.region 2 r6 false) (.block 0 (.loop c9))) c29))
theorem body : Tryd.f19.body = some c0 := by kernel_rfl
section
variable {base : Nat} {W0 : World} {β0 : Bt}
def J3 (k : Nat) (rec0 : (List UInt8) → (List UInt8) → Int → Option ((List UInt8))) (y0 : (List UInt8)) (y3 : (List UInt8)) (y4 : Int) : Option ((List UInt8)) :=
  rec0 y0 y3 (w64 (y4 + 1))
theorem J3_snd {k : Nat} {rec0 : (List UInt8) → (List UInt8) → Int → Option ((List UInt8))} (hrec0 : ∀ ⦃y0 : (List UInt8)⦄ ⦃y3 : (List UInt8)⦄ ⦃y4 : Int⦄ ⦃S : HS⦄ ⦃p : (List UInt8)⦄ ⦃g1 g2 g5 g6 g7 g8 g9 g10 g11 g12 g13 g14 g15 g16 g17 g18 g19 g20 g21 g22 g23 g24 g25 g26 g27 g28 g29 g30 g31 g32 g33 g34 g35 g36 g37 g38 g39 g40 g41 g42 g43 g44 g45 g46 g47 g48 g49 g50 g51 g52 g53 g54 g55 g56 : HV⦄, rec0 y0 y3 y4 = some p → HRun Tryd.prog base W0 β0 19 none [.inLoop c9, .inBlock 0, .code c29] ⟨[(.str y0), g1, g2, (.str y3), (.int .i64 y4), g5, g6, g7, g8, g9, g10, g11, g12, g13, g14, g15, g16, g17, g18, g19, g20, g21, g22, g23, g24, g25, g26, g27, g28, g29, g30, g31, g32, g33, g34, g35, g36, g37, g38, g39, g40, g41, g42, g43, g44, g45, g46, g47, g48, g49, g50, g51, g52, g53, g54, g55, g56], []⟩ S (fun v S1 => v = (.str p) ∧ S1 = S)) {y0 : (List UInt8)} {y3 : (List UInt8)} {y4 : Int} {S : HS} {p : (List UInt8)} {g1 g2 g5 g6 g7 g8 g9 g10 g11 g12 g13 g14 g15 g16 g17 g18 g19 g20 g21 g22 g23 g24 g25 g26 g27 g28 g29 g30 g31 g32 g33 g34 g35 g36 g37 g38 g39 g40 g41 g42 g43 g44 g45 g46 g47 g48 g49 g50 g51 g52 g53 g54 g55 g56 : HV} (h : J3 k rec0 y0 y3 y4 = some p) : HRun Tryd.prog base W0 β0 19 none [.code c28, .inLoop c9, .inBlock 0, .code c29] ⟨[(.str y0), g1, g2, (.str y3), (.int .i64 y4), g5, g6, g7, g8, g9, g10, g11, g12, g13, g14, g15, g16, g17, g18, g19, g20, g21, g22, g23, g24, g25, g26, g27, g28, g29, g30, g31, g32, g33, g34, g35, g36, g37, g38, g39, g40, g41, g42, g43, g44, g45, g46, g47, g48, g49, g50, g51, g52, g53, g54, g55, g56], []⟩ S (fun v S1 => v = (.str p) ∧ S1 = S) := by
  unfold J3 at h
  refine q_region rfl rfl ?_
  refine qS 10 rfl (ok_move · (.tmp rfl)) ?_
  refine qS 11 rfl (ok_ibin · (.tmp rfl) (.int _ _) rfl) ?_
  refine qS 4 rfl (ok_assign · (.tmp rfl)) ?_
  refine hr_region_end ?_
  try dsimp only [w0, w1, w2, w3]
  try dsimp only [w0, w1, w2, w3]
  exact hrec0 h
def J5 (k : Nat) (rec0 : (List UInt8) → (List UInt8) → Int → Option ((List UInt8))) (y0 : (List UInt8)) (y3 : (List UInt8)) (y4 : Int) (y48 : Bool) : Option ((List UInt8)) :=
  (if y48 = true then
  (if 0 ≤ (y4 : Int) ∧ (y4 : Int) ≤ (w64 (y4 + 1)) ∧ ((w64 (y4 + 1)) : Int) ≤ (List.length y0 : Int) then
  (if List.length y3 + List.length (ssub y0 y4 (w64 (y4 + 1))) ≤ 9223372036854775807 then
  J3 k rec0 y0 (y3 ++ (ssub y0 y4 (w64 (y4 + 1)))) y4 else none) else none) else
  J3 k rec0 y0 y3 y4)
theorem J5_snd {k : Nat} {rec0 : (List UInt8) → (List UInt8) → Int → Option ((List UInt8))} (hrec0 : ∀ ⦃y0 : (List UInt8)⦄ ⦃y3 : (List UInt8)⦄ ⦃y4 : Int⦄ ⦃S : HS⦄ ⦃p : (List UInt8)⦄ ⦃g1 g2 g5 g6 g7 g8 g9 g10 g11 g12 g13 g14 g15 g16 g17 g18 g19 g20 g21 g22 g23 g24 g25 g26 g27 g28 g29 g30 g31 g32 g33 g34 g35 g36 g37 g38 g39 g40 g41 g42 g43 g44 g45 g46 g47 g48 g49 g50 g51 g52 g53 g54 g55 g56 : HV⦄, rec0 y0 y3 y4 = some p → HRun Tryd.prog base W0 β0 19 none [.inLoop c9, .inBlock 0, .code c29] ⟨[(.str y0), g1, g2, (.str y3), (.int .i64 y4), g5, g6, g7, g8, g9, g10, g11, g12, g13, g14, g15, g16, g17, g18, g19, g20, g21, g22, g23, g24, g25, g26, g27, g28, g29, g30, g31, g32, g33, g34, g35, g36, g37, g38, g39, g40, g41, g42, g43, g44, g45, g46, g47, g48, g49, g50, g51, g52, g53, g54, g55, g56], []⟩ S (fun v S1 => v = (.str p) ∧ S1 = S)) {y0 : (List UInt8)} {y3 : (List UInt8)} {y4 : Int} {y48 : Bool} {S : HS} {p : (List UInt8)} {g1 g2 g5 g6 g7 g8 g9 g10 g11 g12 g13 g14 g15 g16 g17 g18 g19 g20 g21 g22 g23 g24 g25 g26 g27 g28 g29 g30 g31 g32 g33 g34 g35 g36 g37 g38 g39 g40 g41 g42 g43 g44 g45 g46 g47 g49 g50 g51 g52 g53 g54 g55 g56 : HV} (h : J5 k rec0 y0 y3 y4 y48 = some p) : HRun Tryd.prog base W0 β0 19 none [.code c25, .inBlock 1, .code c28, .inLoop c9, .inBlock 0, .code c29] ⟨[(.str y0), g1, g2, (.str y3), (.int .i64 y4), g5, g6, g7, g8, g9, g10, g11, g12, g13, g14, g15, g16, g17, g18, g19, g20, g21, g22, g23, g24, g25, g26, g27, g28, g29, g30, g31, g32, g33, g34, g35, g36, g37, g38, g39, g40, g41, g42, g43, g44, g45, g46, g47, (.bool y48), g49, g50, g51, g52, g53, g54, g55, g56], []⟩ S (fun v S1 => v = (.str p) ∧ S1 = S) := by
  unfold J5 at h
  rcases ifc h with ⟨hc12, h⟩ | ⟨hc12, h⟩
  · refine q_cond_t rfl (.tmp rfl) hc12 ?_
    refine q_region rfl rfl ?_
    refine qS 49 rfl (ok_move · (.tmp rfl)) ?_
    refine qS 50 rfl (ok_move · (.tmp rfl)) ?_
    refine qS 51 rfl (ok_move · (.tmp rfl)) ?_
    refine qS 52 rfl (ok_move · (.tmp rfl)) ?_
    try dsimp only [w0, w1, w2, w3]
    refine qS 53 rfl (ok_ibin · (.tmp rfl) (.int _ _) rfl) ?_
    obtain ⟨hg13, h⟩ := gd h
    refine qS 54 rfl (ok_slice_str (kl := .i64) (kh := .i64) (l := y4) (h := (w64 (y4 + 1))) · tu9 (.tmp rfl) (.inr ⟨_, rfl, (.tmp rfl)⟩) (.inr ⟨_, rfl, (.tmp rfl)⟩) hg13.1 hg13.2.1 hg13.2.2) ?_
    obtain ⟨hg14, h⟩ := gd h
    refine qS 55 rfl (ok_sadd · (.tmp rfl) (.tmp rfl) hg14) ?_
    refine qS 3 rfl (ok_assign · (.tmp rfl)) ?_
    refine hr_region_end ?_
    try dsimp only [w0, w1, w2, w3]
    refine hr_inBlock ?_
    try dsimp only [w0, w1, w2, w3]
    exact J3_snd hrec0 h
  · refine q_cond_f rfl (.tmp rfl) (bfalse hc12) ?_
    refine q_skipc rfl ?_
    refine hr_inBlock ?_
    try dsimp only [w0, w1, w2, w3]
    exact J3_snd hrec0 h
def J4 (k : Nat) (rec0 : (List UInt8) → (List UInt8) → Int → Option ((List UInt8))) (y0 : (List UInt8)) (y3 : (List UInt8)) (y4 : Int) (y5 : Int) (y41 : Bool) : Option ((List UInt8)) :=
  (if y41 = true then
  J5 k rec0 y0 y3 y4 true else
  (Option.bind (sat y3 (w64 (y5 - 1))) fun p15 =>
  J5 k rec0 y0 y3 y4 (!decide ((UInt8.toNat p15 : Int) = 42))))
theorem J4_snd {k : Nat} {rec0 : (List UInt8) → (List UInt8) → Int → Option ((List UInt8))} (hrec0 : ∀ ⦃y0 : (List UInt8)⦄ ⦃y3 : (List UInt8)⦄ ⦃y4 : Int⦄ ⦃S : HS⦄ ⦃p : (List UInt8)⦄ ⦃g1 g2 g5 g6 g7 g8 g9 g10 g11 g12 g13 g14 g15 g16 g17 g18 g19 g20 g21 g22 g23 g24 g25 g26 g27 g28 g29 g30 g31 g32 g33 g34 g35 g36 g37 g38 g39 g40 g41 g42 g43 g44 g45 g46 g47 g48 g49 g50 g51 g52 g53 g54 g55 g56 : HV⦄, rec0 y0 y3 y4 = some p → HRun Tryd.prog base W0 β0 19 none [.inLoop c9, .inBlock 0, .code c29] ⟨[(.str y0), g1, g2, (.str y3), (.int .i64 y4), g5, g6, g7, g8, g9, g10, g11, g12, g13, g14, g15, g16, g17, g18, g19, g20, g21, g22, g23, g24, g25, g26, g27, g28, g29, g30, g31, g32, g33, g34, g35, g36, g37, g38, g39, g40, g41, g42, g43, g44, g45, g46, g47, g48, g49, g50, g51, g52, g53, g54, g55, g56], []⟩ S (fun v S1 => v = (.str p) ∧ S1 = S)) {y0 : (List UInt8)} {y3 : (List UInt8)} {y4 : Int} {y5 : Int} {y41 : Bool} {S : HS} {p : (List UInt8)} {g1 g2 g6 g7 g8 g9 g10 g11 g12 g13 g14 g15 g16 g17 g18 g19 g20 g21 g22 g23 g24 g25 g26 g27 g28 g29 g30 g31 g32 g33 g34 g35 g36 g37 g38 g39 g40 g42 g43 g44 g45 g46 g47 g48 g49 g50 g51 g52 g53 g54 g55 g56 : HV} (h : J4 k rec0 y0 y3 y4 y5 y41 = some p) : HRun Tryd.prog base W0 β0 19 none [.inRegion r24 [8, 9, 10, 11, 12, 13, 14], .code c25, .inBlock 1, .code c28, .inLoop c9, .inBlock 0, .code c29] ⟨[(.str y0), g1, g2, (.str y3), (.int .i64 y4), (.int .i64 y5), g6, g7, g8, g9, g10, g11, g12, g13, g14, g15, g16, g17, g18, g19, g20, g21, g22, g23, g24, g25, g26, g27, g28, g29, g30, g31, g32, g33, g34, g35, g36, g37, g38, g39, g40, (.bool y41), g42, g43, g44, g45, g46, g47, g48, g49, g50, g51, g52, g53, g54, g55, g56], []⟩ S (fun v S1 => v = (.str p) ∧ S1 = S) := by
  unfold J4 at h
  refine qS 42 rfl (ok_move · (.tmp rfl)) ?_
  rcases ifc h with ⟨hc11, h⟩ | ⟨hc11, h⟩
  · refine q_skip (dst := some 43) (t := 42) rfl rfl rfl hc11 ?_
    refine q_skip (dst := some 44) (t := 42) rfl rfl rfl hc11 ?_
    refine q_skip (dst := some 45) (t := 42) rfl rfl rfl hc11 ?_
    try dsimp only [w0, w1, w2, w3]
    refine q_skip (dst := some 46) (t := 42) rfl rfl rfl hc11 ?_
    refine q_skip (dst := some 47) (t := 42) rfl rfl rfl hc11 ?_
    refine qS 48 rfl (ok_pick_tt · (.tmp rfl) hc11 (.bool _)) ?_
    refine hr_region_end ?_
    try dsimp only [w0, w1, w2, w3]
    try dsimp only [w0, w1, w2, w3]
    exact J5_snd hrec0 h
  · refine qG 42 43 rfl (bfalse hc11) (ok_move · (.tmp rfl)) ?_
    refine qG 42 44 rfl (bfalse hc11) (ok_move · (.tmp rfl)) ?_
    refine qG 42 45 rfl (bfalse hc11) (ok_ibin · (.tmp rfl) (.int _ _) rfl) ?_
    try dsimp only [w0, w1, w2, w3]
    obtain ⟨p15, hp15, h⟩ := bindo h
    refine qG 42 46 rfl (bfalse hc11) (ok_index_s · tu9 (.tmp rfl) (.tmp rfl) hp15) ?_
    refine qG 42 47 rfl (bfalse hc11) (ok_ibin · (.tmp rfl) (.int _ _) rfl) ?_
    refine qS 48 rfl (ok_pick_ff · (.tmp rfl) (bfalse hc11) (.tmp rfl)) ?_
    refine hr_region_end ?_
    try dsimp only [w0, w1, w2, w3]
    try dsimp only [w0, w1, w2, w3]
    exact J5_snd hrec0 h
def J2 (k : Nat) (rec0 : (List UInt8) → (List UInt8) → Int → Option ((List UInt8))) (y0 : (List UInt8)) (y3 : (List UInt8)) (y4 : Int) (y5 : Int) (y28 : Bool) : Option ((List UInt8)) :=
  (if y28 = true then
  (if 0 ≤ (0 : Int) ∧ (0 : Int) ≤ (w64 (y5 - 1)) ∧ ((w64 (y5 - 1)) : Int) ≤ (List.length y3 : Int) then
  (if List.length (ssub y3 0 (w64 (y5 - 1))) + List.length ([63, 42] : List UInt8) ≤ 9223372036854775807 then
  J3 k rec0 y0 ((ssub y3 0 (w64 (y5 - 1))) ++ ([63, 42] : List UInt8)) y4 else none) else none) else
  (Option.bind (sat y0 y4) fun p9 =>
  (if (!decide ((UInt8.toNat p9 : Int) = 42)) = true then
  J4 k rec0 y0 y3 y4 y5 true else
  J4 k rec0 y0 y3 y4 y5 (decide (y5 = 0)))))
theorem J2_snd {k : Nat} {rec0 : (List UInt8) → (List UInt8) → Int → Option ((List UInt8))} (hrec0 : ∀ ⦃y0 : (List UInt8)⦄ ⦃y3 : (List UInt8)⦄ ⦃y4 : Int⦄ ⦃S : HS⦄ ⦃p : (List UInt8)⦄ ⦃g1 g2 g5 g6 g7 g8 g9 g10 g11 g12 g13 g14 g15 g16 g17 g18 g19 g20 g21 g22 g23 g24 g25 g26 g27 g28 g29 g30 g31 g32 g33 g34 g35 g36 g37 g38 g39 g40 g41 g42 g43 g44 g45 g46 g47 g48 g49 g50 g51 g52 g53 g54 g55 g56 : HV⦄, rec0 y0 y3 y4 = some p → HRun Tryd.prog base W0 β0 19 none [.inLoop c9, .inBlock 0, .code c29] ⟨[(.str y0), g1, g2, (.str y3), (.int .i64 y4), g5, g6, g7, g8, g9, g10, g11, g12, g13, g14, g15, g16, g17, g18, g19, g20, g21, g22, g23, g24, g25, g26, g27, g28, g29, g30, g31, g32, g33, g34, g35, g36, g37, g38, g39, g40, g41, g42, g43, g44, g45, g46, g47, g48, g49, g50, g51, g52, g53, g54, g55, g56], []⟩ S (fun v S1 => v = (.str p) ∧ S1 = S)) {y0 : (List UInt8)} {y3 : (List UInt8)} {y4 : Int} {y5 : Int} {y28 : Bool} {S : HS} {p : (List UInt8)} {g1 g2 g6 g7 g8 g9 g10 g11 g12 g13 g14 g15 g16 g17 g18 g19 g20 g21 g22 g23 g24 g25 g26 g27 g29 g30 g31 g32 g33 g34 g35 g36 g37 g38 g39 g40 g41 g42 g43 g44 g45 g46 g47 g48 g49 g50 g51 g52 g53 g54 g55 g56 : HV} (h : J2 k rec0 y0 y3 y4 y5 y28 = some p) : HRun Tryd.prog base W0 β0 19 none [.code c21, .inBlock 1, .code c28, .inLoop c9, .inBlock 0, .code c29] ⟨[(.str y0), g1, g2, (.str y3), (.int .i64 y4), (.int .i64 y5), g6, g7, g8, g9, g10, g11, g12, g13, g14, g15, g16, g17, g18, g19, g20, g21, g22, g23, g24, g25, g26, g27, (.bool y28), g29, g30, g31, g32, g33, g34, g35, g36, g37, g38, g39, g40, g41, g42, g43, g44, g45, g46, g47, g48, g49, g50, g51, g52, g53, g54, g55, g56], []⟩ S (fun v S1 => v = (.str p) ∧ S1 = S) := by
  unfold J2 at h
  rcases ifc h with ⟨hc6, h⟩ | ⟨hc6, h⟩
  · refine q_cond_t rfl (.tmp rfl) hc6 ?_
    refine q_region rfl rfl ?_
    refine qS 29 rfl (ok_move · (.tmp rfl)) ?_
    refine qS 30 rfl (ok_move · (.tmp rfl)) ?_
    refine qS 31 rfl (ok_ibin · (.tmp rfl) (.int _ _) rfl) ?_
    obtain ⟨hg7, h⟩ := gd h
    refine qS 32 rfl (ok_slice_str (kl := .i64) (kh := .i64) (l := 0) (h := (w64 (y5 - 1))) · tu9 (.tmp rfl) (.inl ⟨rfl, rfl⟩) (.inr ⟨_, rfl, (.tmp rfl)⟩) hg7.1 hg7.2.1 hg7.2.2) ?_
    try dsimp only [w0, w1, w2, w3]
    obtain ⟨hg8, h⟩ := gd h
    refine qS 33 rfl (ok_sadd · (.tmp rfl) (.str _) hg8) ?_
    refine qS 3 rfl (ok_assign · (.tmp rfl)) ?_
    refine hr_region_end ?_
    try dsimp only [w0, w1, w2, w3]
    refine hr_inBlock ?_
    try dsimp only [w0, w1, w2, w3]
    exact J3_snd hrec0 h
  · refine q_cond_f rfl (.tmp rfl) (bfalse hc6) ?_
    refine q_seq rfl ?_
    refine q_region rfl rfl ?_
    refine qS 34 rfl (ok_move · (.tmp rfl)) ?_
    refine qS 35 rfl (ok_move · (.tmp rfl)) ?_
    obtain ⟨p9, hp9, h⟩ := bindo h
    refine qS 36 rfl (ok_index_s · tu9 (.tmp rfl) (.tmp rfl) hp9) ?_
    refine qS 37 rfl (ok_ibin · (.tmp rfl) (.int _ _) rfl) ?_
    try dsimp only [w0, w1, w2, w3]
    refine qS 38 rfl (ok_move · (.tmp rfl)) ?_
    rcases ifc h with ⟨hc10, h⟩ | ⟨hc10, h⟩
    · refine q_skip (dst := some 39) (t := 38) rfl rfl rfl hc10 ?_
      refine q_skip (dst := some 40) (t := 38) rfl rfl rfl hc10 ?_
      refine qS 41 rfl (ok_pick_tt · (.tmp rfl) hc10 (.bool _)) ?_
      try dsimp only [w0, w1, w2, w3]
      try dsimp only [w0, w1, w2, w3]
      exact J4_snd hrec0 h
    · refine qG 38 39 rfl (bfalse hc10) (ok_move · (.tmp rfl)) ?_
      refine qG 38 40 rfl (bfalse hc10) (ok_ibin · (.tmp rfl) (.int _ _) rfl) ?_
      refine qS 41 rfl (ok_pick_ff · (.tmp rfl) (bfalse hc10) (.tmp rfl)) ?_
      try dsimp only [w0, w1, w2, w3]
      try dsimp only [w0, w1, w2, w3]
      exact J4_snd hrec0 h
def J1 (k : Nat) (rec0 : (List UInt8) → (List UInt8) → Int → Option ((List UInt8))) (y0 : (List UInt8)) (y3 : (List UInt8)) (y4 : Int) (y5 : Int) (y21 : Bool) : Option ((List UInt8)) :=
  (if y21 = true then
  (Option.bind (sat y3 (w64 (y5 - 1))) fun p5 =>
  J2 k rec0 y0 y3 y4 y5 (decide ((UInt8.toNat p5 : Int) = 42))) else
  J2 k rec0 y0 y3 y4 y5 false)
theorem J1_snd {k : Nat} {rec0 : (List UInt8) → (List UInt8) → Int → Option ((List UInt8))} (hrec0 : ∀ ⦃y0 : (List UInt8)⦄ ⦃y3 : (List UInt8)⦄ ⦃y4 : Int⦄ ⦃S : HS⦄ ⦃p : (List UInt8)⦄ ⦃g1 g2 g5 g6 g7 g8 g9 g10 g11 g12 g13 g14 g15 g16 g17 g18 g19 g20 g21 g22 g23 g24 g25 g26 g27 g28 g29 g30 g31 g32 g33 g34 g35 g36 g37 g38 g39 g40 g41 g42 g43 g44 g45 g46 g47 g48 g49 g50 g51 g52 g53 g54 g55 g56 : HV⦄, rec0 y0 y3 y4 = some p → HRun Tryd.prog base W0 β0 19 none [.inLoop c9, .inBlock 0, .code c29] ⟨[(.str y0), g1, g2, (.str y3), (.int .i64 y4), g5, g6, g7, g8, g9, g10, g11, g12, g13, g14, g15, g16, g17, g18, g19, g20, g21, g22, g23, g24, g25, g26, g27, g28, g29, g30, g31, g32, g33, g34, g35, g36, g37, g38, g39, g40, g41, g42, g43, g44, g45, g46, g47, g48, g49, g50, g51, g52, g53, g54, g55, g56], []⟩ S (fun v S1 => v = (.str p) ∧ S1 = S)) {y0 : (List UInt8)} {y3 : (List UInt8)} {y4 : Int} {y5 : Int} {y21 : Bool} {S : HS} {p : (List UInt8)} {g1 g2 g6 g7 g8 g9 g10 g11 g12 g13 g14 g15 g16 g17 g18 g19 g20 g22 g23 g24 g25 g26 g27 g28 g29 g30 g31 g32 g33 g34 g35 g36 g37 g38 g39 g40 g41 g42 g43 g44 g45 g46 g47 g48 g49 g50 g51 g52 g53 g54 g55 g56 : HV} (h : J1 k rec0 y0 y3 y4 y5 y21 = some p) : HRun Tryd.prog base W0 β0 19 none [.inRegion r20 [8, 9, 10, 11, 12, 13, 14], .code c21, .inBlock 1, .code c28, .inLoop c9, .inBlock 0, .code c29] ⟨[(.str y0), g1, g2, (.str y3), (.int .i64 y4), (.int .i64 y5), g6, g7, g8, g9, g10, g11, g12, g13, g14, g15, g16, g17, g18, g19, g20, (.bool y21), g22, g23, g24, g25, g26, g27, g28, g29, g30, g31, g32, g33, g34, g35, g36, g37, g38, g39, g40, g41, g42, g43, g44, g45, g46, g47, g48, g49, g50, g51, g52, g53, g54, g55, g56], []⟩ S (fun v S1 => v = (.str p) ∧ S1 = S) := by
  unfold J1 at h
  refine qS 22 rfl (ok_move · (.tmp rfl)) ?_
  rcases ifc h with ⟨hc4, h⟩ | ⟨hc4, h⟩
  · refine qG 22 23 rfl hc4 (ok_move · (.tmp rfl)) ?_
    refine qG 22 24 rfl hc4 (ok_move · (.tmp rfl)) ?_
    refine qG 22 25 rfl hc4 (ok_ibin · (.tmp rfl) (.int _ _) rfl) ?_
    try dsimp only [w0, w1, w2, w3]
    obtain ⟨p5, hp5, h⟩ := bindo h
    refine qG 22 26 rfl hc4 (ok_index_s · tu9 (.tmp rfl) (.tmp rfl) hp5) ?_
    refine qG 22 27 rfl hc4 (ok_ibin · (.tmp rfl) (.int _ _) rfl) ?_
    refine qS 28 rfl (ok_pick_tt · (.tmp rfl) hc4 (.tmp rfl)) ?_
    refine hr_region_end ?_
    try dsimp only [w0, w1, w2, w3]
    try dsimp only [w0, w1, w2, w3]
    exact J2_snd hrec0 h
  · refine q_skip (dst := some 23) (t := 22) rfl rfl rfl (bfalse hc4) ?_
    refine q_skip (dst := some 24) (t := 22) rfl rfl rfl (bfalse hc4) ?_
    refine q_skip (dst := some 25) (t := 22) rfl rfl rfl (bfalse hc4) ?_
    try dsimp only [w0, w1, w2, w3]
    refine q_skip (dst := some 26) (t := 22) rfl rfl rfl (bfalse hc4) ?_
    refine q_skip (dst := some 27) (t := 22) rfl rfl rfl (bfalse hc4) ?_
    refine qS 28 rfl (ok_pick_ff · (.tmp rfl) (bfalse hc4) (.bool _)) ?_
    refine hr_region_end ?_
    try dsimp only [w0, w1, w2, w3]
    try dsimp only [w0, w1, w2, w3]
    exact J2_snd hrec0 h
def L0 (k : Nat) : Nat → (List UInt8) → (List UInt8) → Int → Option ((List UInt8))
  | 0, _, _, _ => none
  | n + 1, y0, y3, y4 =>
    (if y4 < (List.length y0 : Int) then
    (Option.bind (sat y0 y4) fun p2 =>
    (if (UInt8.toNat p2 : Int) = 63 then
    J1 k (L0 k n) y0 y3 y4 (List.length y3 : Int) (decide ((List.length y3 : Int) > 0)) else
    J1 k (L0 k n) y0 y3 y4 (List.length y3 : Int) false)) else
    some y3)
theorem L0_snd {k : Nat}  : ∀ {n : Nat} ⦃y0 : (List UInt8)⦄ ⦃y3 : (List UInt8)⦄ ⦃y4 : Int⦄ ⦃S : HS⦄ ⦃p : (List UInt8)⦄ ⦃g1 g2 g5 g6 g7 g8 g9 g10 g11 g12 g13 g14 g15 g16 g17 g18 g19 g20 g21 g22 g23 g24 g25 g26 g27 g28 g29 g30 g31 g32 g33 g34 g35 g36 g37 g38 g39 g40 g41 g42 g43 g44 g45 g46 g47 g48 g49 g50 g51 g52 g53 g54 g55 g56 : HV⦄, L0 k n y0 y3 y4 = some p → HRun Tryd.prog base W0 β0 19 none [.inLoop c9, .inBlock 0, .code c29] ⟨[(.str y0), g1, g2, (.str y3), (.int .i64 y4), g5, g6, g7, g8, g9, g10, g11, g12, g13, g14, g15, g16, g17, g18, g19, g20, g21, g22, g23, g24, g25, g26, g27, g28, g29, g30, g31, g32, g33, g34, g35, g36, g37, g38, g39, g40, g41, g42, g43, g44, g45, g46, g47, g48, g49, g50, g51, g52, g53, g54, g55, g56], []⟩ S (fun v S1 => v = (.str p) ∧ S1 = S) := by
  intro n
  induction n with
  | zero => intro _ _ _ _ _ _ _ _ _ _ _ _ _ _ _ _ _ _ _ _ _ _ _ _ _ _ _ _ _ _ _ _ _ _ _ _ _ _ _ _ _ _ _ _ _ _ _ _ _ _ _ _ _ _ _ _ _ _ _ h; cases h
  | succ n ih =>
    intro y0 y3 y4 S p g1 g2 g5 g6 g7 g8 g9 g10 g11 g12 g13 g14 g15 g16 g17 g18 g19 g20 g21 g22 g23 g24 g25 g26 g27 g28 g29 g30 g31 g32 g33 g34 g35 g36 g37 g38 g39 g40 g41 g42 g43 g44 g45 g46 g47 g48 g49 g50 g51 g52 g53 g54 g55 g56 h
    simp only [L0] at h
    refine hr_inLoop ?_
    refine q_seq rfl ?_
    refine q_seq rfl ?_
    refine q_region rfl rfl ?_
    refine qS 6 rfl (ok_move · (.tmp rfl)) ?_
    refine qS 7 rfl (ok_move · (.tmp rfl)) ?_
    refine qS 8 rfl (ok_len_str · rfl tu9 (.tmp rfl)) ?_
    refine qS 9 rfl (ok_ibin · (.tmp rfl) (.tmp rfl) rfl) ?_
    refine hr_region_end ?_
    try dsimp only [w0, w1, w2, w3]
    rcases ifc h with ⟨hc1, h⟩ | ⟨hc1, h⟩
    · refine q_cond_t rfl (.tmp rfl) (decide_eq_true hc1) ?_
      refine q_skipc rfl ?_
      refine q_seq rfl ?_
      refine q_block rfl ?_
      refine q_seq rfl ?_
      refine q_region rfl rfl ?_
      refine qS 12 rfl (ok_move · (.tmp rfl)) ?_
      refine qS 13 rfl (ok_len_str · rfl tu9 (.tmp rfl)) ?_
      refine qS 5 rfl (ok_assign · (.tmp rfl)) ?_
      refine hr_region_end ?_
      try dsimp only [w0, w1, w2, w3]
      refine q_seq rfl ?_
      refine q_region rfl rfl ?_
      refine qS 14 rfl (ok_move · (.tmp rfl)) ?_
      refine qS 15 rfl (ok_move · (.tmp rfl)) ?_
      obtain ⟨p2, hp2, h⟩ := bindo h
      refine qS 16 rfl (ok_index_s · tu9 (.tmp rfl) (.tmp rfl) hp2) ?_
      refine qS 17 rfl (ok_ibin · (.tmp rfl) (.int _ _) rfl) ?_
      try dsimp only [w0, w1, w2, w3]
      refine qS 18 rfl (ok_move · (.tmp rfl)) ?_
      rcases ifc h with ⟨hc3, h⟩ | ⟨hc3, h⟩
      · refine qG 18 19 rfl (decide_eq_true hc3) (ok_move · (.tmp rfl)) ?_
        refine qG 18 20 rfl (decide_eq_true hc3) (ok_ibin · (.tmp rfl) (.int _ _) rfl) ?_
        refine qS 21 rfl (ok_pick_tt · (.tmp rfl) (decide_eq_true hc3) (.tmp rfl)) ?_
        try dsimp only [w0, w1, w2, w3]
        try dsimp only [w0, w1, w2, w3]
        exact J1_snd ih h
      · refine q_skip (dst := some 19) (t := 18) rfl rfl rfl (decide_eq_false hc3) ?_
        refine q_skip (dst := some 20) (t := 18) rfl rfl rfl (decide_eq_false hc3) ?_
        refine qS 21 rfl (ok_pick_ff · (.tmp rfl) (decide_eq_false hc3) (.bool _)) ?_
        try dsimp only [w0, w1, w2, w3]
        try dsimp only [w0, w1, w2, w3]
        exact J1_snd ih h
    · refine q_cond_f rfl (.tmp rfl) (decide_eq_false hc1) ?_
      refine q_exit rfl rfl ?_
      refine q_seq rfl ?_
      refine q_region rfl rfl ?_
      refine qS 56 rfl (ok_move · (.tmp rfl)) ?_
      refine qS 2 rfl (ok_assign · (.tmp rfl)) ?_
      refine hr_region_end ?_
      try dsimp only [w0, w1, w2, w3]
      cases h
      exact q_ret rfl at_.at_ rfl (res1 rfl rfl) ⟨rfl, rfl⟩
def f (k : Nat) (x0 : (List UInt8)) : Option ((List UInt8)) :=
  L0 k k x0 ([] : List UInt8) 0
theorem snd {k : Nat} {x0 : (List UInt8)} {S : HS}  {p : (List UInt8)} (h : f k x0 = some p) : HCall Tryd.prog base W0 β0 19 [(.str x0)] S (fun v S1 => v = (.str p) ∧ S1 = S) := by
  unfold f at h
  refine HCall.of_run at_.at_ body ?_
  show HRun Tryd.prog base W0 β0 19 none [.code c0] ⟨[(.str x0), τ, τ, τ, τ, τ, τ, τ, τ, τ, τ, τ, τ, τ, τ, τ, τ, τ, τ, τ, τ, τ, τ, τ, τ, τ, τ, τ, τ, τ, τ, τ, τ, τ, τ, τ, τ, τ, τ, τ, τ, τ, τ, τ, τ, τ, τ, τ, τ, τ, τ, τ, τ, τ, τ, τ, τ], []⟩ S _
  refine q_seq rfl ?_
  refine q_region rfl rfl ?_
  refine qS 2 rfl (ok_assign · (.str _)) ?_
  refine hr_region_end ?_
  try dsimp only [w0, w1, w2, w3]
  refine q_seq rfl ?_
  refine q_region rfl rfl ?_
  refine qS 3 rfl (ok_assign · (.str _)) ?_
  refine hr_region_end ?_
  try dsimp only [w0, w1, w2, w3]
  refine q_seq rfl ?_
  refine q_seq rfl ?_
  refine q_region rfl rfl ?_
  refine qS 4 rfl (ok_assign · (.int _ _)) ?_
  refine hr_region_end ?_
  try dsimp only [w0, w1, w2, w3]
  refine q_block rfl ?_
  refine q_loop rfl ?_
  try dsimp only [w0, w1, w2, w3]
  exact L0_snd  h
end
end rollcallref04_Short
namespace glob_Wild
theorem at_ : FnAt Tryd.prog 20 Tryd.f20 := ⟨Tryd.func20, by kernel_rfl⟩
noncomputable def d0 := (Tryd.f20.body).getD .skip
noncomputable def r1 := kR (kA d0)
noncomputable def r3 := kR (kA (kB d0))
noncomputable def c0 : Code := .seq (.region 0 r1 false) (.seq (.region 1 r3 false) .ret)
theorem body : Tryd.f20.body = some c0 := by kernel_rfl
section
variable {base : Nat} {W0 : World} {β0 : Bt}
def f (x0 : (List UInt8)) : Option (Bool) :=
  (Option.bind (strings_ContainsAny.f x0 ([42, 63] : List UInt8)) fun p1 =>
  some p1)
theorem snd {x0 : (List UInt8)} {S : HS}  {p : Bool} (h : f x0 = some p) : HCall Tryd.prog base W0 β0 20 [(.str x0)] S (fun v S1 => v = (.bool p) ∧ S1 = S) := by
  unfold f at h
  refine HCall.of_run at_.at_ body ?_
  show HRun Tryd.prog base W0 β0 20 none [.code c0] ⟨[(.str x0), τ, τ, τ, τ], []⟩ S _
  refine q_seq rfl ?_
  refine q_region rfl rfl ?_
  refine qS 2 rfl (ok_assign · (.bool _)) ?_
  refine hr_region_end ?_
  try dsimp only [w0, w1, w2, w3]
  refine q_seq rfl ?_
  refine q_region rfl rfl ?_
  refine qS 3 rfl (ok_move · (.tmp rfl)) ?_
  obtain ⟨p1, hp1, h⟩ := bindo h
  refine q_call (dst := some 4) rfl (.func _) (.cons (.tmp rfl) (.cons (.str _) Evs.nil)) (HInv.static strings_ContainsAny.at_ strings_ContainsAny.body (strings_ContainsAny.snd  hp1)) ?_
  rintro _ _ ⟨rfl, rfl⟩
  refine qS 2 rfl (ok_assign · (.tmp rfl)) ?_
  refine hr_region_end ?_
  try dsimp only [w0, w1, w2, w3]
  cases h
  exact q_ret rfl at_.at_ rfl (res1 rfl rfl) ⟨rfl, rfl⟩
end
end glob_Wild
namespace rollcalllaw04_GlobShorts
theorem at_ : FnAt Tryd.prog 6 Tryd.f6 := ⟨Tryd.func6, by kernel_rfl⟩
noncomputable def d0 := (Tryd.f6.body).getD .skip
noncomputable def r1 := kR (kA d0)
noncomputable def r4 := kR (kA (kA (kB d0)))
noncomputable def r7 := kR (kA (kA (kB (kA (kB d0)))))
noncomputable def r12 := kR (kA (kA (kB (kB d0))))
noncomputable def r15 := kR (kA (kA (kB (kA (kB (kB d0))))))
noncomputable def r19 := kR (kA (kB (kB (kB d0))))
noncomputable def r21 := kR (kA (kB (kB (kB (kB d0)))))
noncomputable def c22 : Code := .ret
noncomputable def c18 : Code := .seq (.region 5 r19 false) (.seq (.region 6 r21 false) c22)
noncomputable def c13 : Code := .cond (.tmp 15) (.seq (.region 4 r15 false) .ret) .skip
noncomputable def c0 : Code := .seq (.region 0 r1 false) (.seq (.seq (.region 1 r4 false) (.cond (.tmp 7) (.seq (.region 2 r7 false) .ret) .skip)) (.seq (.seq (.region 3 r12 false) c13) c18))
theorem body : Tryd.f6.body = some c0 := by kernel_rfl
section
variable {base : Nat} {W0 : World} {β0 : Bt}
def J3 (k : Nat) (y43 : Bool) (S : HS) : Option ((Bool) × HS) :=
  some (y43, S)
theorem J3_snd {k : Nat}  {y43 : Bool} {S : HS} {p : (Bool) × HS} {g0 g1 g2 g3 g4 g5 g6 g7 g8 g9 g10 g11 g12 g13 g14 g15 g16 g17 g18 g19 g20 g21 g22 g23 g24 g25 g26 g27 g28 g29 g30 g31 g32 g33 g34 g35 g36 g37 g38 g39 g40 g41 g42 : HV} (h : J3 k y43 S = some p) : HRun Tryd.prog base W0 β0 6 none [.inRegion r21 [26], .code c22] ⟨[g0, g1, g2, g3, g4, g5, g6, g7, g8, g9, g10, g11, g12, g13, g14, g15, g16, g17, g18, g19, g20, g21, g22, g23, g24, g25, g26, g27, g28, g29, g30, g31, g32, g33, g34, g35, g36, g37, g38, g39, g40, g41, g42, (.bool y43)], []⟩ S (fun v S1 => v = (.bool p.1) ∧ S1 = p.2) := by
  unfold J3 at h
  refine qS 4 rfl (ok_assign · (.tmp rfl)) ?_
  refine hr_region_end ?_
  try dsimp only [w0, w1, w2, w3]
  cases h
  exact q_ret rfl at_.at_ rfl (res1 rfl rfl) ⟨rfl, rfl⟩
def J2 (k : Nat) (y5 : (List UInt8)) (y37 : Bool) (S : HS) : Option ((Bool) × HS) :=
  (if y37 = true then
  (Option.bind (glob_Short.f k y5 S) fun p14 =>
  J3 k (decide (p14.1 = y5)) p14.2) else
  J3 k false S)
theorem J2_snd {k : Nat}  {y5 : (List UInt8)} {y37 : Bool} {S : HS} {p : (Bool) × HS} {g0 g1 g2 g3 g4 g6 g7 g8 g9 g10 g11 g12 g13 g14 g15 g16 g17 g18 g19 g20 g21 g22 g23 g24 g25 g26 g27 g28 g29 g30 g31 g32 g33 g34 g35 g36 g38 g39 g40 g41 g42 g43 : HV} (h : J2 k y5 y37 S = some p) : HRun Tryd.prog base W0 β0 6 none [.inRegion r21 [20, 21, 22, 23, 24, 25, 26], .code c22] ⟨[g0, g1, g2, g3, g4, (.str y5), g6, g7, g8, g9, g10, g11, g12, g13, g14, g15, g16, g17, g18, g19, g20, g21, g22, g23, g24, g25, g26, g27, g28, g29, g30, g31, g32, g33, g34, g35, g36, (.bool y37), g38, g39, g40, g41, g42, g43], []⟩ S (fun v S1 => v = (.bool p.1) ∧ S1 = p.2) := by
  unfold J2 at h
  refine qS 38 rfl (ok_move · (.tmp rfl)) ?_
  rcases ifc h with ⟨hc13, h⟩ | ⟨hc13, h⟩
  · refine qG 38 39 rfl hc13 (ok_move · (.tmp rfl)) ?_
    obtain ⟨p14, hp14, h⟩ := bindo h
    refine q_call_g (t := 38) (dst := some 40) rfl rfl rfl hc13 (.func _) (.cons (.tmp rfl) Evs.nil) (HInv.static glob_Short.at_ glob_Short.body (glob_Short.snd  hp14)) ?_
    rintro _ _ ⟨rfl, rfl⟩
    refine qG 38 41 rfl hc13 (ok_move · (.tmp rfl)) ?_
    try dsimp only [w0, w1, w2, w3]
    refine qG 38 42 rfl hc13 (ok_sbin · (.tmp rfl) (.tmp rfl) rfl) ?_
    refine qS 43 rfl (ok_pick_tt · (.tmp rfl) hc13 (.tmp rfl)) ?_
    try dsimp only [w0, w1, w2, w3]
    exact J3_snd  h
  · refine q_skip (dst := some 39) (t := 38) rfl rfl rfl (bfalse hc13) ?_
    refine q_skip (dst := some 40) (t := 38) rfl rfl rfl (bfalse hc13) ?_
    refine q_skip (dst := some 41) (t := 38) rfl rfl rfl (bfalse hc13) ?_
    try dsimp only [w0, w1, w2, w3]
    refine q_skip (dst := some 42) (t := 38) rfl rfl rfl (bfalse hc13) ?_
    refine qS 43 rfl (ok_pick_ff · (.tmp rfl) (bfalse hc13) (.bool _)) ?_
    try dsimp only [w0, w1, w2, w3]
    exact J3_snd  h
def J1 (k : Nat) (y0 : (List UInt8)) (y5 : (List UInt8)) (y30 : Bool) (S : HS) : Option ((Bool) × HS) :=
  (if y30 = true then
  (Option.bind (glob_Wild.f y5) fun p11 =>
  (Option.bind (glob_Wild.f y0) fun p12 =>
  J2 k y5 (p11 == p12) S)) else
  J2 k y5 false S)
theorem J1_snd {k : Nat}  {y0 : (List UInt8)} {y5 : (List UInt8)} {y30 : Bool} {S : HS} {p : (Bool) × HS} {g1 g2 g3 g4 g6 g7 g8 g9 g10 g11 g12 g13 g14 g15 g16 g17 g18 g19 g20 g21 g22 g23 g24 g25 g26 g27 g28 g29 g31 g32 g33 g34 g35 g36 g37 g38 g39 g40 g41 g42 g43 : HV} (h : J1 k y0 y5 y30 S = some p) : HRun Tryd.prog base W0 β0 6 none [.inRegion r21 [13, 14, 15, 16, 17, 18, 19, 20, 21, 22, 23, 24, 25, 26], .code c22] ⟨[(.str y0), g1, g2, g3, g4, (.str y5), g6, g7, g8, g9, g10, g11, g12, g13, g14, g15, g16, g17, g18, g19, g20, g21, g22, g23, g24, g25, g26, g27, g28, g29, (.bool y30), g31, g32, g33, g34, g35, g36, g37, g38, g39, g40, g41, g42, g43], []⟩ S (fun v S1 => v = (.bool p.1) ∧ S1 = p.2) := by
  unfold J1 at h
  refine qS 31 rfl (ok_move · (.tmp rfl)) ?_
  rcases ifc h with ⟨hc10, h⟩ | ⟨hc10, h⟩
  · refine qG 31 32 rfl hc10 (ok_move · (.tmp rfl)) ?_
    obtain ⟨p11, hp11, h⟩ := bindo h
    refine q_call_g (t := 31) (dst := some 33) rfl rfl rfl hc10 (.func _) (.cons (.tmp rfl) Evs.nil) (HInv.static glob_Wild.at_ glob_Wild.body (glob_Wild.snd  hp11)) ?_
    rintro _ _ ⟨rfl, rfl⟩
    try dsimp only [w0, w1, w2, w3]
    refine qG 31 34 rfl hc10 (ok_move · (.tmp rfl)) ?_
    obtain ⟨p12, hp12, h⟩ := bindo h
    refine q_call_g (t := 31) (dst := some 35) rfl rfl rfl hc10 (.func _) (.cons (.tmp rfl) Evs.nil) (HInv.static glob_Wild.at_ glob_Wild.body (glob_Wild.snd  hp12)) ?_
    rintro _ _ ⟨rfl, rfl⟩
    refine qG 31 36 rfl hc10 (ok_beq · tu4 (.inl ⟨rfl, rfl⟩) (.tmp rfl) (.tmp rfl)) ?_
    refine qS 37 rfl (ok_pick_tt · (.tmp rfl) hc10 (.tmp rfl)) ?_
    try dsimp only [w0, w1, w2, w3]
    try dsimp only [w0, w1, w2, w3]
    exact J2_snd  h
  · refine q_skip (dst := some 32) (t := 31) rfl rfl rfl (bfalse hc10) ?_
    refine q_skip (dst := some 33) (t := 31) rfl rfl rfl (bfalse hc10) ?_
    try dsimp only [w0, w1, w2, w3]
    refine q_skip (dst := some 34) (t := 31) rfl rfl rfl (bfalse hc10) ?_
    refine q_skip (dst := some 35) (t := 31) rfl rfl rfl (bfalse hc10) ?_
    refine q_skip (dst := some 36) (t := 31) rfl rfl rfl (bfalse hc10) ?_
    refine qS 37 rfl (ok_pick_ff · (.tmp rfl) (bfalse hc10) (.bool _)) ?_
    try dsimp only [w0, w1, w2, w3]
    try dsimp only [w0, w1, w2, w3]
    exact J2_snd  h
def J0 (k : Nat) (y0 : (List UInt8)) (y1 : (List UInt8)) (y15 : Bool) (S : HS) : Option ((Bool) × HS) :=
  (if y15 = true then
  some (true, S) else
  (Option.bind (glob_Short.f k y0 S) fun p5 =>
  (Option.bind (rollcallref04_Short.f k y0) fun p6 =>
  (if p5.1 = p6 then
  (Option.bind (glob_Match.f k p5.1 y1 p5.2) fun p8 =>
  (Option.bind (glob_Match.f k y0 y1 p8.2) fun p9 =>
  J1 k y0 p5.1 (p8.1 == p9.1) p9.2)) else
  J1 k y0 p5.1 false p5.2))))
theorem J0_snd {k : Nat}  {y0 : (List UInt8)} {y1 : (List UInt8)} {y15 : Bool} {S : HS} {p : (Bool) × HS} {g2 g3 g4 g5 g6 g7 g8 g9 g10 g11 g12 g13 g14 g16 g17 g18 g19 g20 g21 g22 g23 g24 g25 g26 g27 g28 g29 g30 g31 g32 g33 g34 g35 g36 g37 g38 g39 g40 g41 g42 g43 : HV} (h : J0 k y0 y1 y15 S = some p) : HRun Tryd.prog base W0 β0 6 none [.code c13, .code c18] ⟨[(.str y0), (.str y1), g2, g3, g4, g5, g6, g7, g8, g9, g10, g11, g12, g13, g14, (.bool y15), g16, g17, g18, g19, g20, g21, g22, g23, g24, g25, g26, g27, g28, g29, g30, g31, g32, g33, g34, g35, g36, g37, g38, g39, g40, g41, g42, g43], []⟩ S (fun v S1 => v = (.bool p.1) ∧ S1 = p.2) := by
  unfold J0 at h
  rcases ifc h with ⟨hc4, h⟩ | ⟨hc4, h⟩
  · refine q_cond_t rfl (.tmp rfl) hc4 ?_
    refine q_seq rfl ?_
    refine q_region rfl rfl ?_
    refine qS 4 rfl (ok_assign · (.bool _)) ?_
    refine hr_region_end ?_
    try dsimp only [w0, w1, w2, w3]
    cases h
    exact q_ret rfl at_.at_ rfl (res1 rfl rfl) ⟨rfl, rfl⟩
  · refine q_cond_f rfl (.tmp rfl) (bfalse hc4) ?_
    refine q_skipc rfl ?_
    refine q_seq rfl ?_
    refine q_region rfl rfl ?_
    refine qS 16 rfl (ok_move · (.tmp rfl)) ?_
    obtain ⟨p5, hp5, h⟩ := bindo h
    refine q_call (dst := some 17) rfl (.func _) (.cons (.tmp rfl) Evs.nil) (HInv.static glob_Short.at_ glob_Short.body (glob_Short.snd  hp5)) ?_
    rintro _ _ ⟨rfl, rfl⟩
    refine qS 5 rfl (ok_assign · (.tmp rfl)) ?_
    refine hr_region_end ?_
    try dsimp only [w0, w1, w2, w3]
    refine q_seq rfl ?_
    refine q_region rfl rfl ?_
    refine qS 18 rfl (ok_move · (.tmp rfl)) ?_
    refine qS 19 rfl (ok_move · (.tmp rfl)) ?_
    obtain ⟨p6, hp6, h⟩ := bindo h
    refine q_call (dst := some 20) rfl (.func _) (.cons (.tmp rfl) Evs.nil) (HInv.static rollcallref04_Short.at_ rollcallref04_Short.body (rollcallref04_Short.snd  hp6)) ?_
    rintro _ _ ⟨rfl, rfl⟩
    refine qS 21 rfl (ok_sbin · (.tmp rfl) (.tmp rfl) rfl) ?_
    try dsimp only [w0, w1, w2, w3]
    refine qS 22 rfl (ok_move · (.tmp rfl)) ?_
    rcases ifc h with ⟨hc7, h⟩ | ⟨hc7, h⟩
    · refine qG 22 23 rfl (decide_eq_true hc7) (ok_move · (.tmp rfl)) ?_
      refine qG 22 24 rfl (decide_eq_true hc7) (ok_move · (.tmp rfl)) ?_
      obtain ⟨p8, hp8, h⟩ := bindo h
      refine q_call_g (t := 22) (dst := some 25) rfl rfl rfl (decide_eq_true hc7) (.func _) (.cons (.tmp rfl) (.cons (.tmp rfl) Evs.nil)) (HInv.static glob_Match.at_ glob_Match.body (glob_Match.snd  hp8)) ?_
      rintro _ _ ⟨rfl, rfl⟩
      try dsimp only [w0, w1, w2, w3]
      refine qG 22 26 rfl (decide_eq_true hc7) (ok_move · (.tmp rfl)) ?_
      refine qG 22 27 rfl (decide_eq_true hc7) (ok_move · (.tmp rfl)) ?_
      obtain ⟨p9, hp9, h⟩ := bindo h
      refine q_call_g (t := 22) (dst := some 28) rfl rfl rfl (decide_eq_true hc7) (.func _) (.cons (.tmp rfl) (.cons (.tmp rfl) Evs.nil)) (HInv.static glob_Match.at_ glob_Match.body (glob_Match.snd  hp9)) ?_
      rintro _ _ ⟨rfl, rfl⟩
      refine qG 22 29 rfl (decide_eq_true hc7) (ok_beq · tu4 (.inl ⟨rfl, rfl⟩) (.tmp rfl) (.tmp rfl)) ?_
      try dsimp only [w0, w1, w2, w3]
      refine qS 30 rfl (ok_pick_tt · (.tmp rfl) (decide_eq_true hc7) (.tmp rfl)) ?_
      try dsimp only [w0, w1, w2, w3]
      exact J1_snd  h
    · refine q_skip (dst := some 23) (t := 22) rfl rfl rfl (decide_eq_false hc7) ?_
      refine q_skip (dst := some 24) (t := 22) rfl rfl rfl (decide_eq_false hc7) ?_
      refine q_skip (dst := some 25) (t := 22) rfl rfl rfl (decide_eq_false hc7) ?_
      try dsimp only [w0, w1, w2, w3]
      refine q_skip (dst := some 26) (t := 22) rfl rfl rfl (decide_eq_false hc7) ?_
      refine q_skip (dst := some 27) (t := 22) rfl rfl rfl (decide_eq_false hc7) ?_
      refine q_skip (dst := some 28) (t := 22) rfl rfl rfl (decide_eq_false hc7) ?_
      refine q_skip (dst := some 29) (t := 22) rfl rfl rfl (decide_eq_false hc7) ?_
      try dsimp only [w0, w1, w2, w3]
      refine qS 30 rfl (ok_pick_ff · (.tmp rfl) (decide_eq_false hc7) (.bool _)) ?_
      try dsimp only [w0, w1, w2, w3]
      exact J1_snd  h
def f (k : Nat) (x0 : (List UInt8)) (x1 : (List UInt8)) (S : HS) : Option ((Bool) × HS) :=
  (Option.bind (rollcalllaw04_awake.f k S) fun p1 =>
  (if (!p1.1) = true then
  some (false, p1.2) else
  (if (List.length x0 : Int) > 60 then
  J0 k x0 x1 true p1.2 else
  J0 k x0 x1 (decide ((List.length x1 : Int) > 60)) p1.2)))
theorem snd {k : Nat} {x0 : (List UInt8)} {x1 : (List UInt8)} {S : HS}  {p : (Bool) × HS} (h : f k x0 x1 S = some p) : HCall Tryd.prog base W0 β0 6 [(.str x0), (.str x1)] S (fun v S1 => v = (.bool p.1) ∧ S1 = p.2) := by
  unfold f at h
  refine HCall.of_run at_.at_ body ?_
  show HRun Tryd.prog base W0 β0 6 none [.code c0] ⟨[(.str x0), (.str x1), τ, τ, τ, τ, τ, τ, τ, τ, τ, τ, τ, τ, τ, τ, τ, τ, τ, τ, τ, τ, τ, τ, τ, τ, τ, τ, τ, τ, τ, τ, τ, τ, τ, τ, τ, τ, τ, τ, τ, τ, τ, τ], []⟩ S _
  refine q_seq rfl ?_
  refine q_region rfl rfl ?_
  refine qS 4 rfl (ok_assign · (.bool _)) ?_
  refine hr_region_end ?_
  try dsimp only [w0, w1, w2, w3]
  refine q_seq rfl ?_
  refine q_seq rfl ?_
  refine q_region rfl rfl ?_
  obtain ⟨p1, hp1, h⟩ := bindo h
  refine q_call (dst := some 6) rfl (.func _) Evs.nil (HInv.static rollcalllaw04_awake.at_ rollcalllaw04_awake.body (rollcalllaw04_awake.snd  hp1)) ?_
  rintro _ _ ⟨rfl, rfl⟩
  refine qS 7 rfl (ok_not · (.tmp rfl)) ?_
  refine hr_region_end ?_
  try dsimp only [w0, w1, w2, w3]
  rcases ifc h with ⟨hc2, h⟩ | ⟨hc2, h⟩
  · refine q_cond_t rfl (.tmp rfl) hc2 ?_
    refine q_seq rfl ?_
    refine q_region rfl rfl ?_
    refine qS 4 rfl (ok_assign · (.bool _)) ?_
    refine hr_region_end ?_
    try dsimp only [w0, w1, w2, w3]
    cases h
    exact q_ret rfl at_.at_ rfl (res1 rfl rfl) ⟨rfl, rfl⟩
  · refine q_cond_f rfl (.tmp rfl) (bfalse hc2) ?_
    refine q_skipc rfl ?_
    refine q_seq rfl ?_
    refine q_seq rfl ?_
    refine q_region rfl rfl ?_
    refine qS 8 rfl (ok_move · (.tmp rfl)) ?_
    refine qS 9 rfl (ok_len_str · rfl tu9 (.tmp rfl)) ?_
    refine qS 10 rfl (ok_ibin · (.tmp rfl) (.int _ _) rfl) ?_
    refine qS 11 rfl (ok_move · (.tmp rfl)) ?_
    try dsimp only [w0, w1, w2, w3]
    rcases ifc h with ⟨hc3, h⟩ | ⟨hc3, h⟩
    · refine q_skip (dst := some 12) (t := 11) rfl rfl rfl (decide_eq_true hc3) ?_
      refine q_skip (dst := some 13) (t := 11) rfl rfl rfl (decide_eq_true hc3) ?_
      refine q_skip (dst := some 14) (t := 11) rfl rfl rfl (decide_eq_true hc3) ?_
      refine qS 15 rfl (ok_pick_tt · (.tmp rfl) (decide_eq_true hc3) (.bool _)) ?_
      refine hr_region_end ?_
      try dsimp only [w0, w1, w2, w3]
      try dsimp only [w0, w1, w2, w3]
      exact J0_snd  h
    · refine qG 11 12 rfl (decide_eq_false hc3) (ok_move · (.tmp rfl)) ?_
      refine qG 11 13 rfl (decide_eq_false hc3) (ok_len_str · rfl tu9 (.tmp rfl)) ?_
      refine qG 11 14 rfl (decide_eq_false hc3) (ok_ibin · (.tmp rfl) (.int _ _) rfl) ?_
      refine qS 15 rfl (ok_pick_ff · (.tmp rfl) (decide_eq_false hc3) (.tmp rfl)) ?_
      refine hr_region_end ?_
      try dsimp only [w0, w1, w2, w3]
      try dsimp only [w0, w1, w2, w3]
      exact J0_snd  h
end
end rollcalllaw04_GlobShorts
namespace rollcallref01_Byte
theorem at_ : FnAt Tryd.prog 25 Tryd.f25 := ⟨Tryd.func25, by kernel_rfl⟩
noncomputable def d0 := (Tryd.f25.body).getD .skip
noncomputable def r1 := kR (kA d0)
noncomputable def r3 := kR (kA (kB d0))
noncomputable def r5 := kR (kA (kB (kB d0)))
noncomputable def d6 := kB (kB (kB d0))
noncomputable def r8 := kR (kA (kA d6))
noncomputable def d10 := kA (kB (kA d6))
noncomputable def r13 := kR (kA (kA (kA d10)))
noncomputable def r20 := kR (kA (kA (kA (kB (kA d10)))))
noncomputable def r23 := kR (kA (kA (kB (kA (kA (kB (kA d10)))))))
noncomputable def r26 := kR (kB (kB (kA d10)))
noncomputable def r28 := kR (kA (kB d6))
noncomputable def c27 : Code := .seq (.region 8 r28 false) .ret
noncomputable def c11 : Code := .seq (.seq (.region 4 r13 false) (.cond (.tmp 9) .skip (.exit 0))) (.seq (.block 1 (.seq (.region 6 r20 false) (.cond (.tmp 16) (.seq (.region 7 r23 false) .ret) .skip))) (.region 5 r26 false))
noncomputable def c0 : Code := .seq (.region 0 r1 false) (.seq (.region 1 r3 false) (.seq (.region 2 r5 false) (.seq (.seq (.region 3 r8 false) (.block 0 (.loop c11))) c27)))
theorem body : Tryd.f25.body = some c0 := by kernel_rfl
section
variable {base : Nat} {W0 : World} {β0 : Bt}
def L0 (k : Nat) : Nat → Int → (List UInt8) → (List UInt8) → Int → Option (Int)
  | 0, _, _, _, _ => none
  | n + 1, y0, y3, y4, y5 =>
    (if y5 < (List.length y3 : Int) then
    (Option.bind (sat y3 y5) fun p2 =>
    (if (UInt8.toNat p2 : Int) = y0 then
    (Option.bind (sat y4 y5) fun p4 =>
    some (UInt8.toNat p4 : Int)) else
    (L0 k n) y0 y3 y4 (w64 (y5 + 1)))) else
    some y0)
theorem L0_snd {k : Nat}  : ∀ {n : Nat} ⦃y0 : Int⦄ ⦃y3 : (List UInt8)⦄ ⦃y4 : (List UInt8)⦄ ⦃y5 : Int⦄ ⦃S : HS⦄ ⦃p : Int⦄ ⦃g1 g2 g6 g7 g8 g9 g10 g11 g12 g13 g14 g15 g16 g17 g18 g19 g20 : HV⦄, L0 k n y0 y3 y4 y5 = some p → HRun Tryd.prog base W0 β0 25 none [.inLoop c11, .inBlock 0, .code c27] ⟨[(.int .u8 y0), g1, g2, (.str y3), (.str y4), (.int .i64 y5), g6, g7, g8, g9, g10, g11, g12, g13, g14, g15, g16, g17, g18, g19, g20], []⟩ S (fun v S1 => v = (.int .u8 p) ∧ S1 = S) := by
  intro n
  induction n with
  | zero => intro _ _ _ _ _ _ _ _ _ _ _ _ _ _ _ _ _ _ _ _ _ _ _ h; cases h
  | succ n ih =>
    intro y0 y3 y4 y5 S p g1 g2 g6 g7 g8 g9 g10 g11 g12 g13 g14 g15 g16 g17 g18 g19 g20 h
    simp only [L0] at h
    refine hr_inLoop ?_
    refine q_seq rfl ?_
    refine q_seq rfl ?_
    refine q_region rfl rfl ?_
    refine qS 6 rfl (ok_move · (.tmp rfl)) ?_
    refine qS 7 rfl (ok_move · (.tmp rfl)) ?_
    refine qS 8 rfl (ok_len_str · rfl tu9 (.tmp rfl)) ?_
    refine qS 9 rfl (ok_ibin · (.tmp rfl) (.tmp rfl) rfl) ?_
    refine hr_region_end ?_
    try dsimp only [w0, w1, w2, w3]
    rcases ifc h with ⟨hc1, h⟩ | ⟨hc1, h⟩
    · refine q_cond_t rfl (.tmp rfl) (decide_eq_true hc1) ?_
      refine q_skipc rfl ?_
      refine q_seq rfl ?_
      refine q_block rfl ?_
      refine q_seq rfl ?_
      refine q_region rfl rfl ?_
      refine qS 12 rfl (ok_move · (.tmp rfl)) ?_
      refine qS 13 rfl (ok_move · (.tmp rfl)) ?_
      obtain ⟨p2, hp2, h⟩ := bindo h
      refine qS 14 rfl (ok_index_s · tu9 (.tmp rfl) (.tmp rfl) hp2) ?_
      refine qS 15 rfl (ok_move · (.tmp rfl)) ?_
      try dsimp only [w0, w1, w2, w3]
      refine qS 16 rfl (ok_ibin · (.tmp rfl) (.tmp rfl) rfl) ?_
      refine hr_region_end ?_
      try dsimp only [w0, w1, w2, w3]
      rcases ifc h with ⟨hc3, h⟩ | ⟨hc3, h⟩
      · refine q_cond_t rfl (.tmp rfl) (decide_eq_true hc3) ?_
        refine q_seq rfl ?_
        refine q_region rfl rfl ?_
        refine qS 17 rfl (ok_move · (.tmp rfl)) ?_
        refine qS 18 rfl (ok_move · (.tmp rfl)) ?_
        obtain ⟨p4, hp4, h⟩ := bindo h
        refine qS 19 rfl (ok_index_s · tu9 (.tmp rfl) (.tmp rfl) hp4) ?_
        refine qS 2 rfl (ok_assign · (.tmp rfl)) ?_
        refine hr_region_end ?_
        try dsimp only [w0, w1, w2, w3]
        cases h
        exact q_ret rfl at_.at_ rfl (res1 rfl rfl) ⟨rfl, rfl⟩
      · refine q_cond_f rfl (.tmp rfl) (decide_eq_false hc3) ?_
        refine q_skipc rfl ?_
        refine hr_inBlock ?_
        refine q_region rfl rfl ?_
        refine qS 10 rfl (ok_move · (.tmp rfl)) ?_
        refine qS 11 rfl (ok_ibin · (.tmp rfl) (.int _ _) rfl) ?_
        refine qS 5 rfl (ok_assign · (.tmp rfl)) ?_
        refine hr_region_end ?_
        try dsimp only [w0, w1, w2, w3]
        try dsimp only [w0, w1, w2, w3]
        exact ih h
    · refine q_cond_f rfl (.tmp rfl) (decide_eq_false hc1) ?_
      refine q_exit rfl rfl ?_
      refine q_seq rfl ?_
      refine q_region rfl rfl ?_
      refine qS 20 rfl (ok_move · (.tmp rfl)) ?_
      refine qS 2 rfl (ok_assign · (.tmp rfl)) ?_
      refine hr_region_end ?_
      try dsimp only [w0, w1, w2, w3]
      cases h
      exact q_ret rfl at_.at_ rfl (res1 rfl rfl) ⟨rfl, rfl⟩
def f (k : Nat) (x0 : Int) : Option (Int) :=
  L0 k k x0 ([65, 66, 67, 68, 69, 70, 71, 72, 73, 74, 75, 76, 77, 78, 79, 80, 81, 82, 83, 84, 85, 86, 87, 88, 89, 90, 91, 93, 92, 126] : List UInt8) ([97, 98, 99, 100, 101, 102, 103, 104, 105, 106, 107, 108, 109, 110, 111, 112, 113, 114, 115, 116, 117, 118, 119, 120, 121, 122, 123, 125, 124, 94] : List UInt8) 0
theorem snd {k : Nat} {x0 : Int} {S : HS}  {p : Int} (h : f k x0 = some p) : HCall Tryd.prog base W0 β0 25 [(.int .u8 x0)] S (fun v S1 => v = (.int .u8 p) ∧ S1 = S) := by
  unfold f at h
  refine HCall.of_run at_.at_ body ?_
  show HRun Tryd.prog base W0 β0 25 none [.code c0] ⟨[(.int .u8 x0), τ, τ, τ, τ, τ, τ, τ, τ, τ, τ, τ, τ, τ, τ, τ, τ, τ, τ, τ, τ], []⟩ S _
  refine q_seq rfl ?_
  refine q_region rfl rfl ?_
  refine qS 2 rfl (ok_assign · (.int _ _)) ?_
  refine hr_region_end ?_
  try dsimp only [w0, w1, w2, w3]
  refine q_seq rfl ?_
  refine q_region rfl rfl ?_
  refine qS 3 rfl (ok_assign · (.str _)) ?_
  refine hr_region_end ?_
  try dsimp only [w0, w1, w2, w3]
  refine q_seq rfl ?_
  refine q_region rfl rfl ?_
  refine qS 4 rfl (ok_assign · (.str _)) ?_
  refine hr_region_end ?_
  try dsimp only [w0, w1, w2, w3]
  refine q_seq rfl ?_
  refine q_seq rfl ?_
  refine q_region rfl rfl ?_
  refine qS 5 rfl (ok_assign · (.int _ _)) ?_
  refine hr_region_end ?_
  try dsimp only [w0, w1, w2, w3]
  refine q_block rfl ?_
  refine q_loop rfl ?_
  try dsimp only [w0, w1, w2, w3]
  exact L0_snd  h
end
end rollcallref01_Byte
namespace rollcallref01_Text
theorem at_ : FnAt Tryd.prog 23 Tryd.f23 := ⟨Tryd.func23, by kernel_rfl⟩
noncomputable def d0 := (Tryd.f23.body).getD .skip
noncomputable def r1 := kR (kA d0)
noncomputable def r3 := kR (kA (kB d0))
noncomputable def d5 := kA (kB (kB d0))
noncomputable def r6 := kR (kA d5)
noncomputable def r11 := kR (kA (kA (kA (kA (kB d5)))))
noncomputable def r17 := kR (kA (kA (kB (kA (kA (kB d5))))))
noncomputable def r18 := kR (kB (kB (kA (kA (kB d5)))))
noncomputable def r20 := kR (kA (kB (kB (kB d0))))
noncomputable def c19 : Code := .seq (.region 6 r20 false) .ret
noncomputable def c9 : Code := .seq (.seq (.region 3 r11 false) (.cond (.tmp 8) .skip (.exit 0))) (.seq (.block 1 (.region 5 r17 false)) (.region 4 r18 false))
noncomputable def c0 : Code := .seq (.region 0 r1 false) (.seq (.region 1 r3 false) (.seq (.seq (.region 2 r6 false) (.block 0 (.loop c9))) c19))
theorem body : Tryd.f23.body = some c0 := by kernel_rfl
section
variable {base : Nat} {W0 : World} {β0 : Bt}
def L0 (k : Nat) : Nat → (List UInt8) → (List UInt8) → Int → HS → Option (((List UInt8)) × HS)
  | 0, _, _, _, _ => none
  | n + 1, y0, y3, y4, S =>
    (if y4 < (List.length y0 : Int) then
    (Option.bind (sat y0 y4) fun p2 =>
    (Option.bind (rollcallref01_Byte.f k (UInt8.toNat p2 : Int)) fun p3 =>
    (letv (HS.lit S [[(.int .u8 p3)]] 1) fun p4 =>
    (Option.bind (HS.text (p4.2) (p4.1)) fun p5 =>
    (if List.length y3 + List.length p5 ≤ 9223372036854775807 then
    (L0 k n) y0 (y3 ++ p5) (w64 (y4 + 1)) (p4.2) else none))))) else
    some (y3, S))
theorem L0_snd {k : Nat}  : ∀ {n : Nat} ⦃y0 : (List UInt8)⦄ ⦃y3 : (List UInt8)⦄ ⦃y4 : Int⦄ ⦃S : HS⦄ ⦃p : ((List UInt8)) × HS⦄ ⦃g1 g2 g5 g6 g7 g8 g9 g10 g11 g12 g13 g14 g15 g16 g17 g18 g19 : HV⦄, L0 k n y0 y3 y4 S = some p → HRun Tryd.prog base W0 β0 23 none [.inLoop c9, .inBlock 0, .code c19] ⟨[(.str y0), g1, g2, (.str y3), (.int .i64 y4), g5, g6, g7, g8, g9, g10, g11, g12, g13, g14, g15, g16, g17, g18, g19], []⟩ S (fun v S1 => v = (.str p.1) ∧ S1 = p.2) := by
  intro n
  induction n with
  | zero => intro _ _ _ _ _ _ _ _ _ _ _ _ _ _ _ _ _ _ _ _ _ _ h; cases h
  | succ n ih =>
    intro y0 y3 y4 S p g1 g2 g5 g6 g7 g8 g9 g10 g11 g12 g13 g14 g15 g16 g17 g18 g19 h
    simp only [L0] at h
    refine hr_inLoop ?_
    refine q_seq rfl ?_
    refine q_seq rfl ?_
    refine q_region rfl rfl ?_
    refine qS 5 rfl (ok_move · (.tmp rfl)) ?_
    refine qS 6 rfl (ok_move · (.tmp rfl)) ?_
    refine qS 7 rfl (ok_len_str · rfl tu9 (.tmp rfl)) ?_
    refine qS 8 rfl (ok_ibin · (.tmp rfl) (.tmp rfl) rfl) ?_
    refine hr_region_end ?_
    try dsimp only [w0, w1, w2, w3]
    rcases ifc h with ⟨hc1, h⟩ | ⟨hc1, h⟩
    · refine q_cond_t rfl (.tmp rfl) (decide_eq_true hc1) ?_
      refine q_skipc rfl ?_
      refine q_seq rfl ?_
      refine q_block rfl ?_
      refine q_region rfl rfl ?_
      refine qS 11 rfl (ok_move · (.tmp rfl)) ?_
      refine qS 12 rfl (ok_move · (.tmp rfl)) ?_
      refine qS 13 rfl (ok_move · (.tmp rfl)) ?_
      obtain ⟨p2, hp2, h⟩ := bindo h
      refine qS 14 rfl (ok_index_s · tu9 (.tmp rfl) (.tmp rfl) hp2) ?_
      try dsimp only [w0, w1, w2, w3]
      obtain ⟨p3, hp3, h⟩ := bindo h
      refine q_call (dst := some 15) rfl (.func _) (.cons (.tmp rfl) Evs.nil) (HInv.static rollcallref01_Byte.at_ rollcallref01_Byte.body (rollcallref01_Byte.snd  hp3)) ?_
      rintro _ _ ⟨rfl, rfl⟩
      obtain ⟨p4, hp4, h⟩ := leto h
      refine qS 16 rfl (ok_buildSlice_s (xs := [(.tmp 15)]) el41 · rfl rfl (by decide) (.cons (.tmp rfl) Evs.nil) rfl rfl hp4) ?_
      obtain ⟨p5, hp5, h⟩ := bindo h
      refine qS 17 rfl (ok_str_of_bytes (s := (p4.1)) · tu41 tu5 tu9 (.tmp rfl) hp5) ?_
      obtain ⟨hg6, h⟩ := gd h
      refine qS 18 rfl (ok_sadd · (.tmp rfl) (.tmp rfl) hg6) ?_
      try dsimp only [w0, w1, w2, w3]
      refine qS 3 rfl (ok_assign · (.tmp rfl)) ?_
      refine hr_region_end ?_
      try dsimp only [w0, w1, w2, w3]
      refine hr_inBlock ?_
      refine q_region rfl rfl ?_
      refine qS 9 rfl (ok_move · (.tmp rfl)) ?_
      refine qS 10 rfl (ok_ibin · (.tmp rfl) (.int _ _) rfl) ?_
      refine qS 4 rfl (ok_assign · (.tmp rfl)) ?_
      refine hr_region_end ?_
      try dsimp only [w0, w1, w2, w3]
      try dsimp only [w0, w1, w2, w3]
      exact ih h
    · refine q_cond_f rfl (.tmp rfl) (decide_eq_false hc1) ?_
      refine q_exit rfl rfl ?_
      refine q_seq rfl ?_
      refine q_region rfl rfl ?_
      refine qS 19 rfl (ok_move · (.tmp rfl)) ?_
      refine qS 2 rfl (ok_assign · (.tmp rfl)) ?_
      refine hr_region_end ?_
      try dsimp only [w0, w1, w2, w3]
      cases h
      exact q_ret rfl at_.at_ rfl (res1 rfl rfl) ⟨rfl, rfl⟩
def f (k : Nat) (x0 : (List UInt8)) (S : HS) : Option (((List UInt8)) × HS) :=
  L0 k k x0 ([] : List UInt8) 0 S
theorem snd {k : Nat} {x0 : (List UInt8)} {S : HS}  {p : ((List UInt8)) × HS} (h : f k x0 S = some p) : HCall Tryd.prog base W0 β0 23 [(.str x0)] S (fun v S1 => v = (.str p.1) ∧ S1 = p.2) := by
  unfold f at h
  refine HCall.of_run at_.at_ body ?_
  show HRun Tryd.prog base W0 β0 23 none [.code c0] ⟨[(.str x0), τ, τ, τ, τ, τ, τ, τ, τ, τ, τ, τ, τ, τ, τ, τ, τ, τ, τ, τ], []⟩ S _
  refine q_seq rfl ?_
  refine q_region rfl rfl ?_
  refine qS 2 rfl (ok_assign · (.str _)) ?_
  refine hr_region_end ?_
  try dsimp only [w0, w1, w2, w3]
  refine q_seq rfl ?_
  refine q_region rfl rfl ?_
  refine qS 3 rfl (ok_assign · (.str _)) ?_
  refine hr_region_end ?_
  try dsimp only [w0, w1, w2, w3]
  refine q_seq rfl ?_
  refine q_seq rfl ?_
  refine q_region rfl rfl ?_
  refine qS 4 rfl (ok_assign · (.int _ _)) ?_
  refine hr_region_end ?_
  try dsimp only [w0, w1, w2, w3]
  refine q_block rfl ?_
  refine q_loop rfl ?_
  try dsimp only [w0, w1, w2, w3]
  exact L0_snd  h
end
end rollcallref01_Text
namespace rollcallref01_Same
theorem at_ : FnAt Tryd.prog 21 Tryd.f21 := ⟨Tryd.func21, by kernel_rfl⟩
noncomputable def d0 := (Tryd.f21.body).getD .skip
noncomputable def r1 := kR (kA d0)
noncomputable def r3 := kR (kA (kB d0))
noncomputable def c0 : Code := .seq (.region 0 r1 false) (.seq (.region 1 r3 false) .ret)
theorem body : Tryd.f21.body = some c0 := by kernel_rfl
section
variable {base : Nat} {W0 : World} {β0 : Bt}
def f (k : Nat) (x0 : (List UInt8)) (x1 : (List UInt8)) (S : HS) : Option ((Bool) × HS) :=
  (Option.bind (rollcallref01_Text.f k x0 S) fun p1 =>
  (Option.bind (rollcallref01_Text.f k x1 p1.2) fun p2 =>
  some ((decide (p1.1 = p2.1)), p2.2)))
theorem snd {k : Nat} {x0 : (List UInt8)} {x1 : (List UInt8)} {S : HS}  {p : (Bool) × HS} (h : f k x0 x1 S = some p) : HCall Tryd.prog base W0 β0 21 [(.str x0), (.str x1)] S (fun v S1 => v = (.bool p.1) ∧ S1 = p.2) := by
  unfold f at h
  refine HCall.of_run at_.at_ body ?_
  show HRun Tryd.prog base W0 β0 21 none [.code c0] ⟨[(.str x0), (.str x1), τ, τ, τ, τ, τ, τ, τ, τ], []⟩ S _
  refine q_seq rfl ?_
  refine q_region rfl rfl ?_
  refine qS 4 rfl (ok_assign · (.bool _)) ?_
  refine hr_region_end ?_
  try dsimp only [w0, w1, w2, w3]
  refine q_seq rfl ?_
  refine q_region rfl rfl ?_
  refine qS 5 rfl (ok_move · (.tmp rfl)) ?_
  obtain ⟨p1, hp1, h⟩ := bindo h
  refine q_call (dst := some 6) rfl (.func _) (.cons (.tmp rfl) Evs.nil) (HInv.static rollcallref01_Text.at_ rollcallref01_Text.body (rollcallref01_Text.snd  hp1)) ?_
  rintro _ _ ⟨rfl, rfl⟩
  refine qS 7 rfl (ok_move · (.tmp rfl)) ?_
  obtain ⟨p2, hp2, h⟩ := bindo h
  refine q_call (dst := some 8) rfl (.func _) (.cons (.tmp rfl) Evs.nil) (HInv.static rollcallref01_Text.at_ rollcallref01_Text.body (rollcallref01_Text.snd  hp2)) ?_
  rintro _ _ ⟨rfl, rfl⟩
  try dsimp only [w0, w1, w2, w3]
  refine qS 9 rfl (ok_sbin · (.tmp rfl) (.tmp rfl) rfl) ?_
  refine qS 4 rfl (ok_assign · (.tmp rfl)) ?_
  refine hr_region_end ?_
  try dsimp only [w0, w1, w2, w3]
  cases h
  exact q_ret rfl at_.at_ rfl (res1 rfl rfl) ⟨rfl, rfl⟩
end
end rollcallref01_Same
namespace rollcalllaw04_GlobParts
theorem at_ : FnAt Tryd.prog 7 Tryd.f7 := ⟨Tryd.func7, by kernel_rfl⟩
noncomputable def d0 := (Tryd.f7.body).getD .skip
noncomputable def r1 := kR (kA d0)
noncomputable def r4 := kR (kA (kA (kB d0)))
noncomputable def r7 := kR (kA (kA (kB (kA (kB d0)))))
noncomputable def r12 := kR (kA (kA (kB (kB d0))))
noncomputable def r15 := kR (kA (kA (kB (kA (kB (kB d0))))))
noncomputable def d18 := kB (kB (kB d0))
noncomputable def r19 := kR (kA d18)
noncomputable def r22 := kR (kA (kA (kB d18)))
noncomputable def d23 := kB (kA (kB d18))
noncomputable def r27 := kR (kA (kA (kA (kA d23))))
noncomputable def d31 := kB (kA (kA d23))
noncomputable def r34 := kR (kA (kA (kA d31)))
noncomputable def d37 := kA (kA (kB (kA (kA d31))))
noncomputable def r39 := kR (kA (kA d37))
noncomputable def r45 := kR (kA (kA (kB d37)))
noncomputable def r46 := kR (kB (kB d37))
noncomputable def r47 := kR (kB d31)
noncomputable def r49 := kR (kA (kB (kB d18)))
noncomputable def c50 : Code := .ret
noncomputable def c48 : Code := .seq (.region 13 r49 false) c50
noncomputable def c47 : Code := .region 8 r47 false
noncomputable def c46 : Code := .region 11 r46 false
noncomputable def c37 : Code := .seq (.seq (.region 10 r39 false) (.cond (.tmp 35) .skip (.exit 2))) (.seq (.block 3 (.region 12 r45 false)) c46)
noncomputable def c25 : Code := .seq (.seq (.region 7 r27 false) (.cond (.tmp 28) .skip (.exit 0))) (.seq (.block 1 (.seq (.region 9 r34 false) (.block 2 (.loop c37)))) c47)
noncomputable def c18 : Code := .seq (.region 5 r19 false) (.seq (.seq (.region 6 r22 false) (.block 0 (.loop c25))) c48)
noncomputable def c13 : Code := .cond (.tmp 24) (.seq (.region 4 r15 false) .ret) .skip
noncomputable def c0 : Code := .seq (.region 0 r1 false) (.seq (.seq (.region 1 r4 false) (.cond (.tmp 11) (.seq (.region 2 r7 false) .ret) .skip)) (.seq (.seq (.region 3 r12 false) c13) c18))
theorem body : Tryd.f7.body = some c0 := by kernel_rfl
section
variable {base : Nat} {W0 : World} {β0 : Bt}
def J4 (k : Nat) (rec0 : (List UInt8) → (List UInt8) → (List UInt8) → Bool → Int → Int → HS → Option ((Bool) × HS)) (rec1 : (List UInt8) → (List UInt8) → (List UInt8) → Bool → Int → HS → Option ((Bool) × HS)) (y0 : (List UInt8)) (y1 : (List UInt8)) (y2 : (List UInt8)) (y8 : Int) (y9 : Int) (y52 : Bool) (S : HS) : Option ((Bool) × HS) :=
  rec0 y0 y1 y2 y52 y8 (w64 (y9 + 1)) S
theorem J4_snd {k : Nat} {rec0 : (List UInt8) → (List UInt8) → (List UInt8) → Bool → Int → Int → HS → Option ((Bool) × HS)} {rec1 : (List UInt8) → (List UInt8) → (List UInt8) → Bool → Int → HS → Option ((Bool) × HS)} (hrec0 : ∀ ⦃y0 : (List UInt8)⦄ ⦃y1 : (List UInt8)⦄ ⦃y2 : (List UInt8)⦄ ⦃y7 : Bool⦄ ⦃y8 : Int⦄ ⦃y9 : Int⦄ ⦃S : HS⦄ ⦃p : (Bool) × HS⦄ ⦃g3 g4 g5 g6 g10 g11 g12 g13 g14 g15 g16 g17 g18 g19 g20 g21 g22 g23 g24 g25 g26 g27 g28 g29 g30 g31 g32 g33 g34 g35 g36 g37 g38 g39 g40 g41 g42 g43 g44 g45 g46 g47 g48 g49 g50 g51 g52 g53 g54 g55 g56 g57 g58 g59 g60 g61 g62 g63 g64 g65 g66 g67 g68 g69 g70 g71 g72 g73 : HV⦄, rec0 y0 y1 y2 y7 y8 y9 S = some p → HRun Tryd.prog base W0 β0 7 none [.inLoop c37, .inBlock 2, .inBlock 1, .code c47, .inLoop c25, .inBlock 0, .code c48] ⟨[(.str y0), (.str y1), (.str y2), g3, g4, g5, g6, (.bool y7), (.int .i64 y8), (.int .i64 y9), g10, g11, g12, g13, g14, g15, g16, g17, g18, g19, g20, g21, g22, g23, g24, g25, g26, g27, g28, g29, g30, g31, g32, g33, g34, g35, g36, g37, g38, g39, g40, g41, g42, g43, g44, g45, g46, g47, g48, g49, g50, g51, g52, g53, g54, g55, g56, g57, g58, g59, g60, g61, g62, g63, g64, g65, g66, g67, g68, g69, g70, g71, g72, g73], []⟩ S (fun v S1 => v = (.bool p.1) ∧ S1 = p.2)) (hrec1 : ∀ ⦃y0 : (List UInt8)⦄ ⦃y1 : (List UInt8)⦄ ⦃y2 : (List UInt8)⦄ ⦃y7 : Bool⦄ ⦃y8 : Int⦄ ⦃S : HS⦄ ⦃p : (Bool) × HS⦄ ⦃g3 g4 g5 g6 g9 g10 g11 g12 g13 g14 g15 g16 g17 g18 g19 g20 g21 g22 g23 g24 g25 g26 g27 g28 g29 g30 g31 g32 g33 g34 g35 g36 g37 g38 g39 g40 g41 g42 g43 g44 g45 g46 g47 g48 g49 g50 g51 g52 g53 g54 g55 g56 g57 g58 g59 g60 g61 g62 g63 g64 g65 g66 g67 g68 g69 g70 g71 g72 g73 : HV⦄, rec1 y0 y1 y2 y7 y8 S = some p → HRun Tryd.prog base W0 β0 7 none [.inLoop c25, .inBlock 0, .code c48] ⟨[(.str y0), (.str y1), (.str y2), g3, g4, g5, g6, (.bool y7), (.int .i64 y8), g9, g10, g11, g12, g13, g14, g15, g16, g17, g18, g19, g20, g21, g22, g23, g24, g25, g26, g27, g28, g29, g30, g31, g32, g33, g34, g35, g36, g37, g38, g39, g40, g41, g42, g43, g44, g45, g46, g47, g48, g49, g50, g51, g52, g53, g54, g55, g56, g57, g58, g59, g60, g61, g62, g63, g64, g65, g66, g67, g68, g69, g70, g71, g72, g73], []⟩ S (fun v S1 => v = (.bool p.1) ∧ S1 = p.2)) {y0 : (List UInt8)} {y1 : (List UInt8)} {y2 : (List UInt8)} {y8 : Int} {y9 : Int} {y52 : Bool} {S : HS} {p : (Bool) × HS} {g3 g4 g5 g6 g7 g10 g11 g12 g13 g14 g15 g16 g17 g18 g19 g20 g21 g22 g23 g24 g25 g26 g27 g28 g29 g30 g31 g32 g33 g34 g35 g36 g37 g38 g39 g40 g41 g42 g43 g44 g45 g46 g47 g48 g49 g50 g51 g53 g54 g55 g56 g57 g58 g59 g60 g61 g62 g63 g64 g65 g66 g67 g68 g69 g70 g71 g72 g73 : HV} (h : J4 k rec0 rec1 y0 y1 y2 y8 y9 y52 S = some p) : HRun Tryd.prog base W0 β0 7 none [.inRegion r45 [15], .inBlock 3, .code c46, .inLoop c37, .inBlock 2, .inBlock 1, .code c47, .inLoop c25, .inBlock 0, .code c48] ⟨[(.str y0), (.str y1), (.str y2), g3, g4, g5, g6, g7, (.int .i64 y8), (.int .i64 y9), g10, g11, g12, g13, g14, g15, g16, g17, g18, g19, g20, g21, g22, g23, g24, g25, g26, g27, g28, g29, g30, g31, g32, g33, g34, g35, g36, g37, g38, g39, g40, g41, g42, g43, g44, g45, g46, g47, g48, g49, g50, g51, (.bool y52), g53, g54, g55, g56, g57, g58, g59, g60, g61, g62, g63, g64, g65, g66, g67, g68, g69, g70, g71, g72, g73], []⟩ S (fun v S1 => v = (.bool p.1) ∧ S1 = p.2) := by
  unfold J4 at h
  refine qS 7 rfl (ok_assign · (.tmp rfl)) ?_
  refine hr_region_end ?_
  try dsimp only [w0, w1, w2, w3]
  refine hr_inBlock ?_
  refine q_region rfl rfl ?_
  refine qS 36 rfl (ok_move · (.tmp rfl)) ?_
  refine qS 37 rfl (ok_ibin · (.tmp rfl) (.int _ _) rfl) ?_
  refine qS 9 rfl (ok_assign · (.tmp rfl)) ?_
  refine hr_region_end ?_
  try dsimp only [w0, w1, w2, w3]
  try dsimp only [w0, w1, w2, w3]
  exact hrec0 h
def J5 (k : Nat) (rec0 : (List UInt8) → (List UInt8) → (List UInt8) → Bool → Int → Int → HS → Option ((Bool) × HS)) (rec1 : (List UInt8) → (List UInt8) → (List UInt8) → Bool → Int → HS → Option ((Bool) × HS)) (y0 : (List UInt8)) (y1 : (List UInt8)) (y2 : (List UInt8)) (y8 : Int) (y9 : Int) (y39 : Bool) (y51 : Bool) (S : HS) : Option ((Bool) × HS) :=
  (if y39 = true then
  J4 k rec0 rec1 y0 y1 y2 y8 y9 true S else
  J4 k rec0 rec1 y0 y1 y2 y8 y9 y51 S)
theorem J5_snd {k : Nat} {rec0 : (List UInt8) → (List UInt8) → (List UInt8) → Bool → Int → Int → HS → Option ((Bool) × HS)} {rec1 : (List UInt8) → (List UInt8) → (List UInt8) → Bool → Int → HS → Option ((Bool) × HS)} (hrec0 : ∀ ⦃y0 : (List UInt8)⦄ ⦃y1 : (List UInt8)⦄ ⦃y2 : (List UInt8)⦄ ⦃y7 : Bool⦄ ⦃y8 : Int⦄ ⦃y9 : Int⦄ ⦃S : HS⦄ ⦃p : (Bool) × HS⦄ ⦃g3 g4 g5 g6 g10 g11 g12 g13 g14 g15 g16 g17 g18 g19 g20 g21 g22 g23 g24 g25 g26 g27 g28 g29 g30 g31 g32 g33 g34 g35 g36 g37 g38 g39 g40 g41 g42 g43 g44 g45 g46 g47 g48 g49 g50 g51 g52 g53 g54 g55 g56 g57 g58 g59 g60 g61 g62 g63 g64 g65 g66 g67 g68 g69 g70 g71 g72 g73 : HV⦄, rec0 y0 y1 y2 y7 y8 y9 S = some p → HRun Tryd.prog base W0 β0 7 none [.inLoop c37, .inBlock 2, .inBlock 1, .code c47, .inLoop c25, .inBlock 0, .code c48] ⟨[(.str y0), (.str y1), (.str y2), g3, g4, g5, g6, (.bool y7), (.int .i64 y8), (.int .i64 y9), g10, g11, g12, g13, g14, g15, g16, g17, g18, g19, g20, g21, g22, g23, g24, g25, g26, g27, g28, g29, g30, g31, g32, g33, g34, g35, g36, g37, g38, g39, g40, g41, g42, g43, g44, g45, g46, g47, g48, g49, g50, g51, g52, g53, g54, g55, g56, g57, g58, g59, g60, g61, g62, g63, g64, g65, g66, g67, g68, g69, g70, g71, g72, g73], []⟩ S (fun v S1 => v = (.bool p.1) ∧ S1 = p.2)) (hrec1 : ∀ ⦃y0 : (List UInt8)⦄ ⦃y1 : (List UInt8)⦄ ⦃y2 : (List UInt8)⦄ ⦃y7 : Bool⦄ ⦃y8 : Int⦄ ⦃S : HS⦄ ⦃p : (Bool) × HS⦄ ⦃g3 g4 g5 g6 g9 g10 g11 g12 g13 g14 g15 g16 g17 g18 g19 g20 g21 g22 g23 g24 g25 g26 g27 g28 g29 g30 g31 g32 g33 g34 g35 g36 g37 g38 g39 g40 g41 g42 g43 g44 g45 g46 g47 g48 g49 g50 g51 g52 g53 g54 g55 g56 g57 g58 g59 g60 g61 g62 g63 g64 g65 g66 g67 g68 g69 g70 g71 g72 g73 : HV⦄, rec1 y0 y1 y2 y7 y8 S = some p → HRun Tryd.prog base W0 β0 7 none [.inLoop c25, .inBlock 0, .code c48] ⟨[(.str y0), (.str y1), (.str y2), g3, g4, g5, g6, (.bool y7), (.int .i64 y8), g9, g10, g11, g12, g13, g14, g15, g16, g17, g18, g19, g20, g21, g22, g23, g24, g25, g26, g27, g28, g29, g30, g31, g32, g33, g34, g35, g36, g37, g38, g39, g40, g41, g42, g43, g44, g45, g46, g47, g48, g49, g50, g51, g52, g53, g54, g55, g56, g57, g58, g59, g60, g61, g62, g63, g64, g65, g66, g67, g68, g69, g70, g71, g72, g73], []⟩ S (fun v S1 => v = (.bool p.1) ∧ S1 = p.2)) {y0 : (List UInt8)} {y1 : (List UInt8)} {y2 : (List UInt8)} {y8 : Int} {y9 : Int} {y39 : Bool} {y51 : Bool} {S : HS} {p : (Bool) × HS} {g3 g4 g5 g6 g7 g10 g11 g12 g13 g14 g15 g16 g17 g18 g19 g20 g21 g22 g23 g24 g25 g26 g27 g28 g29 g30 g31 g32 g33 g34 g35 g36 g37 g38 g40 g41 g42 g43 g44 g45 g46 g47 g48 g49 g50 g52 g53 g54 g55 g56 g57 g58 g59 g60 g61 g62 g63 g64 g65 g66 g67 g68 g69 g70 g71 g72 g73 : HV} (h : J5 k rec0 rec1 y0 y1 y2 y8 y9 y39 y51 S = some p) : HRun Tryd.prog base W0 β0 7 none [.inRegion r45 [14, 15], .inBlock 3, .code c46, .inLoop c37, .inBlock 2, .inBlock 1, .code c47, .inLoop c25, .inBlock 0, .code c48] ⟨[(.str y0), (.str y1), (.str y2), g3, g4, g5, g6, g7, (.int .i64 y8), (.int .i64 y9), g10, g11, g12, g13, g14, g15, g16, g17, g18, g19, g20, g21, g22, g23, g24, g25, g26, g27, g28, g29, g30, g31, g32, g33, g34, g35, g36, g37, g38, (.bool y39), g40, g41, g42, g43, g44, g45, g46, g47, g48, g49, g50, (.bool y51), g52, g53, g54, g55, g56, g57, g58, g59, g60, g61, g62, g63, g64, g65, g66, g67, g68, g69, g70, g71, g72, g73], []⟩ S (fun v S1 => v = (.bool p.1) ∧ S1 = p.2) := by
  unfold J5 at h
  rcases ifc h with ⟨hc14, h⟩ | ⟨hc14, h⟩
  · refine qS 52 rfl (ok_pick_tt · (.tmp rfl) hc14 (.bool _)) ?_
    try dsimp only [w0, w1, w2, w3]
    exact J4_snd hrec0 hrec1 h
  · refine qS 52 rfl (ok_pick_ff · (.tmp rfl) (bfalse hc14) (.tmp rfl)) ?_
    try dsimp only [w0, w1, w2, w3]
    exact J4_snd hrec0 hrec1 h
def L3 (k : Nat) (rec0 : (List UInt8) → (List UInt8) → (List UInt8) → Bool → Int → HS → Option ((Bool) × HS)) : Nat → (List UInt8) → (List UInt8) → (List UInt8) → Bool → Int → Int → HS → Option ((Bool) × HS)
  | 0, _, _, _, _, _, _, _ => none
  | n + 1, y0, y1, y2, y7, y8, y9, S =>
    (if y9 ≤ (List.length y2 : Int) then
    (if y7 = true then
    J4 k (L3 k rec0 n) rec0 y0 y1 y2 y8 y9 true S else
    (if 0 ≤ (0 : Int) ∧ (0 : Int) ≤ y8 ∧ (y8 : Int) ≤ (List.length y2 : Int) then
    (Option.bind (glob_Match.f k y0 (ssub y2 0 y8) S) fun p10 =>
    (if p10.1 = true then
    (if 0 ≤ (y9 : Int) ∧ (y9 : Int) ≤ (List.length y2 : Int) ∧ ((List.length y2 : Int) : Int) ≤ (List.length y2 : Int) then
    (Option.bind (glob_Match.f k y1 (ssub y2 y9 (List.length y2 : Int)) p10.2) fun p13 =>
    J5 k (L3 k rec0 n) rec0 y0 y1 y2 y8 y9 y7 p13.1 p13.2) else none) else
    J5 k (L3 k rec0 n) rec0 y0 y1 y2 y8 y9 y7 false p10.2)) else none)) else
    rec0 y0 y1 y2 y7 (w64 (y8 + 1)) S)
theorem L3_snd {k : Nat} {rec0 : (List UInt8) → (List UInt8) → (List UInt8) → Bool → Int → HS → Option ((Bool) × HS)} (hrec0 : ∀ ⦃y0 : (List UInt8)⦄ ⦃y1 : (List UInt8)⦄ ⦃y2 : (List UInt8)⦄ ⦃y7 : Bool⦄ ⦃y8 : Int⦄ ⦃S : HS⦄ ⦃p : (Bool) × HS⦄ ⦃g3 g4 g5 g6 g9 g10 g11 g12 g13 g14 g15 g16 g17 g18 g19 g20 g21 g22 g23 g24 g25 g26 g27 g28 g29 g30 g31 g32 g33 g34 g35 g36 g37 g38 g39 g40 g41 g42 g43 g44 g45 g46 g47 g48 g49 g50 g51 g52 g53 g54 g55 g56 g57 g58 g59 g60 g61 g62 g63 g64 g65 g66 g67 g68 g69 g70 g71 g72 g73 : HV⦄, rec0 y0 y1 y2 y7 y8 S = some p → HRun Tryd.prog base W0 β0 7 none [.inLoop c25, .inBlock 0, .code c48] ⟨[(.str y0), (.str y1), (.str y2), g3, g4, g5, g6, (.bool y7), (.int .i64 y8), g9, g10, g11, g12, g13, g14, g15, g16, g17, g18, g19, g20, g21, g22, g23, g24, g25, g26, g27, g28, g29, g30, g31, g32, g33, g34, g35, g36, g37, g38, g39, g40, g41, g42, g43, g44, g45, g46, g47, g48, g49, g50, g51, g52, g53, g54, g55, g56, g57, g58, g59, g60, g61, g62, g63, g64, g65, g66, g67, g68, g69, g70, g71, g72, g73], []⟩ S (fun v S1 => v = (.bool p.1) ∧ S1 = p.2)) : ∀ {n : Nat} ⦃y0 : (List UInt8)⦄ ⦃y1 : (List UInt8)⦄ ⦃y2 : (List UInt8)⦄ ⦃y7 : Bool⦄ ⦃y8 : Int⦄ ⦃y9 : Int⦄ ⦃S : HS⦄ ⦃p : (Bool) × HS⦄ ⦃g3 g4 g5 g6 g10 g11 g12 g13 g14 g15 g16 g17 g18 g19 g20 g21 g22 g23 g24 g25 g26 g27 g28 g29 g30 g31 g32 g33 g34 g35 g36 g37 g38 g39 g40 g41 g42 g43 g44 g45 g46 g47 g48 g49 g50 g51 g52 g53 g54 g55 g56 g57 g58 g59 g60 g61 g62 g63 g64 g65 g66 g67 g68 g69 g70 g71 g72 g73 : HV⦄, L3 k rec0 n y0 y1 y2 y7 y8 y9 S = some p → HRun Tryd.prog base W0 β0 7 none [.inLoop c37, .inBlock 2, .inBlock 1, .code c47, .inLoop c25, .inBlock 0, .code c48] ⟨[(.str y0), (.str y1), (.str y2), g3, g4, g5, g6, (.bool y7), (.int .i64 y8), (.int .i64 y9), g10, g11, g12, g13, g14, g15, g16, g17, g18, g19, g20, g21, g22, g23, g24, g25, g26, g27, g28, g29, g30, g31, g32, g33, g34, g35, g36, g37, g38, g39, g40, g41, g42, g43, g44, g45, g46, g47, g48, g49, g50, g51, g52, g53, g54, g55, g56, g57, g58, g59, g60, g61, g62, g63, g64, g65, g66, g67, g68, g69, g70, g71, g72, g73], []⟩ S (fun v S1 => v = (.bool p.1) ∧ S1 = p.2) := by
  intro n
  induction n with
  | zero => intro _ _ _ _ _ _ _ _ _ _ _ _ _ _ _ _ _ _ _ _ _ _ _ _ _ _ _ _ _ _ _ _ _ _ _ _ _ _ _ _ _ _ _ _ _ _ _ _ _ _ _ _ _ _ _ _ _ _ _ _ _ _ _ _ _ _ _ _ _ _ _ _ _ _ _ _ h; cases h
  | succ n ih =>
    intro y0 y1 y2 y7 y8 y9 S p g3 g4 g5 g6 g10 g11 g12 g13 g14 g15 g16 g17 g18 g19 g20 g21 g22 g23 g24 g25 g26 g27 g28 g29 g30 g31 g32 g33 g34 g35 g36 g37 g38 g39 g40 g41 g42 g43 g44 g45 g46 g47 g48 g49 g50 g51 g52 g53 g54 g55 g56 g57 g58 g59 g60 g61 g62 g63 g64 g65 g66 g67 g68 g69 g70 g71 g72 g73 h
    simp only [L3] at h
    refine hr_inLoop ?_
    refine q_seq rfl ?_
    refine q_seq rfl ?_
    refine q_region rfl rfl ?_
    refine qS 32 rfl (ok_move · (.tmp rfl)) ?_
    refine qS 33 rfl (ok_move · (.tmp rfl)) ?_
    refine qS 34 rfl (ok_len_str · rfl tu9 (.tmp rfl)) ?_
    refine qS 35 rfl (ok_ibin · (.tmp rfl) (.tmp rfl) rfl) ?_
    refine hr_region_end ?_
    try dsimp only [w0, w1, w2, w3]
    rcases ifc h with ⟨hc7, h⟩ | ⟨hc7, h⟩
    · refine q_cond_t rfl (.tmp rfl) (decide_eq_true hc7) ?_
      refine q_skipc rfl ?_
      refine q_seq rfl ?_
      refine q_block rfl ?_
      refine q_region rfl rfl ?_
      refine qS 38 rfl (ok_move · (.tmp rfl)) ?_
      refine qS 39 rfl (ok_move · (.tmp rfl)) ?_
      rcases ifc h with ⟨hc8, h⟩ | ⟨hc8, h⟩
      · refine q_skip (dst := some 40) (t := 39) rfl rfl rfl hc8 ?_
        refine q_skip (dst := some 41) (t := 39) rfl rfl rfl hc8 ?_
        try dsimp only [w0, w1, w2, w3]
        refine q_skip (dst := some 42) (t := 39) rfl rfl rfl hc8 ?_
        refine q_skip (dst := some 43) (t := 39) rfl rfl rfl hc8 ?_
        refine q_skip (dst := some 44) (t := 39) rfl rfl rfl hc8 ?_
        refine q_skip (dst := some 45) (t := 39) rfl rfl rfl hc8 ?_
        try dsimp only [w0, w1, w2, w3]
        refine q_skip_u (dst := some 46) (t := 45) rfl rfl rfl ?_
        refine q_skip_u (dst := some 47) (t := 45) rfl rfl rfl ?_
        refine q_skip_u (dst := some 48) (t := 45) rfl rfl rfl ?_
        refine q_skip_u (dst := some 49) (t := 45) rfl rfl rfl ?_
        try dsimp only [w0, w1, w2, w3]
        refine q_skip_u (dst := some 50) (t := 45) rfl rfl rfl ?_
        refine q_skip (dst := some 51) (t := 39) rfl rfl rfl hc8 ?_
        refine qS 52 rfl (ok_pick_tt · (.tmp rfl) hc8 (.bool _)) ?_
        try dsimp only [w0, w1, w2, w3]
        exact J4_snd ih hrec0 h
      · refine qG 39 40 rfl (bfalse hc8) (ok_move · (.tmp rfl)) ?_
        refine qG 39 41 rfl (bfalse hc8) (ok_move · (.tmp rfl)) ?_
        try dsimp only [w0, w1, w2, w3]
        refine qG 39 42 rfl (bfalse hc8) (ok_move · (.tmp rfl)) ?_
        obtain ⟨hg9, h⟩ := gd h
        refine qG 39 43 rfl (bfalse hc8) (ok_slice_str (kl := .i64) (kh := .i64) (l := 0) (h := y8) · tu9 (.tmp rfl) (.inl ⟨rfl, rfl⟩) (.inr ⟨_, rfl, (.tmp rfl)⟩) hg9.1 hg9.2.1 hg9.2.2) ?_
        obtain ⟨p10, hp10, h⟩ := bindo h
        refine q_call_g (t := 39) (dst := some 44) rfl rfl rfl (bfalse hc8) (.func _) (.cons (.tmp rfl) (.cons (.tmp rfl) Evs.nil)) (HInv.static glob_Match.at_ glob_Match.body (glob_Match.snd  hp10)) ?_
        rintro _ _ ⟨rfl, rfl⟩
        refine qG 39 45 rfl (bfalse hc8) (ok_move · (.tmp rfl)) ?_
        try dsimp only [w0, w1, w2, w3]
        rcases ifc h with ⟨hc11, h⟩ | ⟨hc11, h⟩
        · refine qG 45 46 rfl hc11 (ok_move · (.tmp rfl)) ?_
          refine qG 45 47 rfl hc11 (ok_move · (.tmp rfl)) ?_
          refine qG 45 48 rfl hc11 (ok_move · (.tmp rfl)) ?_
          obtain ⟨hg12, h⟩ := gd h
          refine qG 45 49 rfl hc11 (ok_slice_str (kl := .i64) (kh := .i64) (l := y9) (h := (List.length y2 : Int)) · tu9 (.tmp rfl) (.inr ⟨_, rfl, (.tmp rfl)⟩) (.inl ⟨rfl, rfl⟩) hg12.1 hg12.2.1 hg12.2.2) ?_
          try dsimp only [w0, w1, w2, w3]
          obtain ⟨p13, hp13, h⟩ := bindo h
          refine q_call_g (t := 45) (dst := some 50) rfl rfl rfl hc11 (.func _) (.cons (.tmp rfl) (.cons (.tmp rfl) Evs.nil)) (HInv.static glob_Match.at_ glob_Match.body (glob_Match.snd  hp13)) ?_
          rintro _ _ ⟨rfl, rfl⟩
          refine qG 39 51 rfl (bfalse hc8) (ok_pick_tt · (.tmp rfl) hc11 (.tmp rfl)) ?_
          try dsimp only [w0, w1, w2, w3]
          exact J5_snd ih hrec0 h
        · refine q_skip (dst := some 46) (t := 45) rfl rfl rfl (bfalse hc11) ?_
          refine q_skip (dst := some 47) (t := 45) rfl rfl rfl (bfalse hc11) ?_
          refine q_skip (dst := some 48) (t := 45) rfl rfl rfl (bfalse hc11) ?_
          refine q_skip (dst := some 49) (t := 45) rfl rfl rfl (bfalse hc11) ?_
          try dsimp only [w0, w1, w2, w3]
          refine q_skip (dst := some 50) (t := 45) rfl rfl rfl (bfalse hc11) ?_
          refine qG 39 51 rfl (bfalse hc8) (ok_pick_ff · (.tmp rfl) (bfalse hc11) (.bool _)) ?_
          try dsimp only [w0, w1, w2, w3]
          exact J5_snd ih hrec0 h
    · refine q_cond_f rfl (.tmp rfl) (decide_eq_false hc7) ?_
      refine q_exit rfl rfl ?_
      refine hr_inBlock ?_
      refine q_region rfl rfl ?_
      refine qS 29 rfl (ok_move · (.tmp rfl)) ?_
      refine qS 30 rfl (ok_ibin · (.tmp rfl) (.int _ _) rfl) ?_
      refine qS 8 rfl (ok_assign · (.tmp rfl)) ?_
      refine hr_region_end ?_
      try dsimp only [w0, w1, w2, w3]
      try dsimp only [w0, w1, w2, w3]
      exact hrec0 h
def J7 (k : Nat) (y73 : Bool) (S : HS) : Option ((Bool) × HS) :=
  some (y73, S)
theorem J7_snd {k : Nat}  {y73 : Bool} {S : HS} {p : (Bool) × HS} {g0 g1 g2 g3 g4 g5 g6 g7 g8 g9 g10 g11 g12 g13 g14 g15 g16 g17 g18 g19 g20 g21 g22 g23 g24 g25 g26 g27 g28 g29 g30 g31 g32 g33 g34 g35 g36 g37 g38 g39 g40 g41 g42 g43 g44 g45 g46 g47 g48 g49 g50 g51 g52 g53 g54 g55 g56 g57 g58 g59 g60 g61 g62 g63 g64 g65 g66 g67 g68 g69 g70 g71 g72 : HV} (h : J7 k y73 S = some p) : HRun Tryd.prog base W0 β0 7 none [.inRegion r49 [21], .code c50] ⟨[g0, g1, g2, g3, g4, g5, g6, g7, g8, g9, g10, g11, g12, g13, g14, g15, g16, g17, g18, g19, g20, g21, g22, g23, g24, g25, g26, g27, g28, g29, g30, g31, g32, g33, g34, g35, g36, g37, g38, g39, g40, g41, g42, g43, g44, g45, g46, g47, g48, g49, g50, g51, g52, g53, g54, g55, g56, g57, g58, g59, g60, g61, g62, g63, g64, g65, g66, g67, g68, g69, g70, g71, g72, (.bool y73)], []⟩ S (fun v S1 => v = (.bool p.1) ∧ S1 = p.2) := by
  unfold J7 at h
  refine qS 6 rfl (ok_assign · (.tmp rfl)) ?_
  refine hr_region_end ?_
  try dsimp only [w0, w1, w2, w3]
  cases h
  exact q_ret rfl at_.at_ rfl (res1 rfl rfl) ⟨rfl, rfl⟩
def J6 (k : Nat) (y61 : Bool) (y72 : Bool) (S : HS) : Option ((Bool) × HS) :=
  (if y61 = true then
  J7 k y72 S else
  J7 k false S)
theorem J6_snd {k : Nat}  {y61 : Bool} {y72 : Bool} {S : HS} {p : (Bool) × HS} {g0 g1 g2 g3 g4 g5 g6 g7 g8 g9 g10 g11 g12 g13 g14 g15 g16 g17 g18 g19 g20 g21 g22 g23 g24 g25 g26 g27 g28 g29 g30 g31 g32 g33 g34 g35 g36 g37 g38 g39 g40 g41 g42 g43 g44 g45 g46 g47 g48 g49 g50 g51 g52 g53 g54 g55 g56 g57 g58 g59 g60 g62 g63 g64 g65 g66 g67 g68 g69 g70 g71 g73 : HV} (h : J6 k y61 y72 S = some p) : HRun Tryd.prog base W0 β0 7 none [.inRegion r49 [20, 21], .code c50] ⟨[g0, g1, g2, g3, g4, g5, g6, g7, g8, g9, g10, g11, g12, g13, g14, g15, g16, g17, g18, g19, g20, g21, g22, g23, g24, g25, g26, g27, g28, g29, g30, g31, g32, g33, g34, g35, g36, g37, g38, g39, g40, g41, g42, g43, g44, g45, g46, g47, g48, g49, g50, g51, g52, g53, g54, g55, g56, g57, g58, g59, g60, (.bool y61), g62, g63, g64, g65, g66, g67, g68, g69, g70, g71, (.bool y72), g73], []⟩ S (fun v S1 => v = (.bool p.1) ∧ S1 = p.2) := by
  unfold J6 at h
  rcases ifc h with ⟨hc21, h⟩ | ⟨hc21, h⟩
  · refine qS 73 rfl (ok_pick_tt · (.tmp rfl) hc21 (.tmp rfl)) ?_
    try dsimp only [w0, w1, w2, w3]
    exact J7_snd  h
  · refine qS 73 rfl (ok_pick_ff · (.tmp rfl) (bfalse hc21) (.bool _)) ?_
    try dsimp only [w0, w1, w2, w3]
    exact J7_snd  h
def L2 (k : Nat) : Nat → (List UInt8) → (List UInt8) → (List UInt8) → Bool → Int → HS → Option ((Bool) × HS)
  | 0, _, _, _, _, _, _ => none
  | n + 1, y0, y1, y2, y7, y8, S =>
    (if y8 ≤ (List.length y2 : Int) then
    L3 k (L2 k n) k y0 y1 y2 y7 y8 y8 S else
    (if List.length y0 + List.length ([42] : List UInt8) ≤ 9223372036854775807 then
    (if List.length (y0 ++ ([42] : List UInt8)) + List.length y1 ≤ 9223372036854775807 then
    (Option.bind (glob_Match.f k ((y0 ++ ([42] : List UInt8)) ++ y1) y2 S) fun p17 =>
    (if (p17.1 == y7) = true then
    (Option.bind (glob_Wild.f y0) fun p19 =>
    (if p19 = true then
    J6 k (p17.1 == y7) true p17.2 else
    (Option.bind (glob_Match.f k y0 y2 p17.2) fun p22 =>
    (Option.bind (rollcallref01_Same.f k y0 y2 p22.2) fun p23 =>
    J6 k (p17.1 == y7) (p22.1 == p23.1) p23.2)))) else
    J7 k false p17.2)) else none) else none))
theorem L2_snd {k : Nat}  : ∀ {n : Nat} ⦃y0 : (List UInt8)⦄ ⦃y1 : (List UInt8)⦄ ⦃y2 : (List UInt8)⦄ ⦃y7 : Bool⦄ ⦃y8 : Int⦄ ⦃S : HS⦄ ⦃p : (Bool) × HS⦄ ⦃g3 g4 g5 g6 g9 g10 g11 g12 g13 g14 g15 g16 g17 g18 g19 g20 g21 g22 g23 g24 g25 g26 g27 g28 g29 g30 g31 g32 g33 g34 g35 g36 g37 g38 g39 g40 g41 g42 g43 g44 g45 g46 g47 g48 g49 g50 g51 g52 g53 g54 g55 g56 g57 g58 g59 g60 g61 g62 g63 g64 g65 g66 g67 g68 g69 g70 g71 g72 g73 : HV⦄, L2 k n y0 y1 y2 y7 y8 S = some p → HRun Tryd.prog base W0 β0 7 none [.inLoop c25, .inBlock 0, .code c48] ⟨[(.str y0), (.str y1), (.str y2), g3, g4, g5, g6, (.bool y7), (.int .i64 y8), g9, g10, g11, g12, g13, g14, g15, g16, g17, g18, g19, g20, g21, g22, g23, g24, g25, g26, g27, g28, g29, g30, g31, g32, g33, g34, g35, g36, g37, g38, g39, g40, g41, g42, g43, g44, g45, g46, g47, g48, g49, g50, g51, g52, g53, g54, g55, g56, g57, g58, g59, g60, g61, g62, g63, g64, g65, g66, g67, g68, g69, g70, g71, g72, g73], []⟩ S (fun v S1 => v = (.bool p.1) ∧ S1 = p.2) := by
  intro n
  induction n with
  | zero => intro _ _ _ _ _ _ _ _ _ _ _ _ _ _ _ _ _ _ _ _ _ _ _ _ _ _ _ _ _ _ _ _ _ _ _ _ _ _ _ _ _ _ _ _ _ _ _ _ _ _ _ _ _ _ _ _ _ _ _ _ _ _ _ _ _ _ _ _ _ _ _ _ _ _ _ _ h; cases h
  | succ n ih =>
    intro y0 y1 y2 y7 y8 S p g3 g4 g5 g6 g9 g10 g11 g12 g13 g14 g15 g16 g17 g18 g19 g20 g21 g22 g23 g24 g25 g26 g27 g28 g29 g30 g31 g32 g33 g34 g35 g36 g37 g38 g39 g40 g41 g42 g43 g44 g45 g46 g47 g48 g49 g50 g51 g52 g53 g54 g55 g56 g57 g58 g59 g60 g61 g62 g63 g64 g65 g66 g67 g68 g69 g70 g71 g72 g73 h
    simp only [L2] at h
    refine hr_inLoop ?_
    refine q_seq rfl ?_
    refine q_seq rfl ?_
    refine q_region rfl rfl ?_
    refine qS 25 rfl (ok_move · (.tmp rfl)) ?_
    refine qS 26 rfl (ok_move · (.tmp rfl)) ?_
    refine qS 27 rfl (ok_len_str · rfl tu9 (.tmp rfl)) ?_
    refine qS 28 rfl (ok_ibin · (.tmp rfl) (.tmp rfl) rfl) ?_
    refine hr_region_end ?_
    try dsimp only [w0, w1, w2, w3]
    rcases ifc h with ⟨hc6, h⟩ | ⟨hc6, h⟩
    · refine q_cond_t rfl (.tmp rfl) (decide_eq_true hc6) ?_
      refine q_skipc rfl ?_
      refine q_seq rfl ?_
      refine q_block rfl ?_
      refine q_seq rfl ?_
      refine q_region rfl rfl ?_
      refine qS 31 rfl (ok_move · (.tmp rfl)) ?_
      refine qS 9 rfl (ok_assign · (.tmp rfl)) ?_
      refine hr_region_end ?_
      try dsimp only [w0, w1, w2, w3]
      refine q_block rfl ?_
      refine q_loop rfl ?_
      try dsimp only [w0, w1, w2, w3]
      exact L3_snd ih h
    · refine q_cond_f rfl (.tmp rfl) (decide_eq_false hc6) ?_
      refine q_exit rfl rfl ?_
      refine q_seq rfl ?_
      refine q_region rfl rfl ?_
      refine qS 53 rfl (ok_move · (.tmp rfl)) ?_
      obtain ⟨hg15, h⟩ := gd h
      refine qS 54 rfl (ok_sadd · (.tmp rfl) (.str _) hg15) ?_
      refine qS 55 rfl (ok_move · (.tmp rfl)) ?_
      obtain ⟨hg16, h⟩ := gd h
      refine qS 56 rfl (ok_sadd · (.tmp rfl) (.tmp rfl) hg16) ?_
      try dsimp only [w0, w1, w2, w3]
      refine qS 57 rfl (ok_move · (.tmp rfl)) ?_
      obtain ⟨p17, hp17, h⟩ := bindo h
      refine q_call (dst := some 58) rfl (.func _) (.cons (.tmp rfl) (.cons (.tmp rfl) Evs.nil)) (HInv.static glob_Match.at_ glob_Match.body (glob_Match.snd  hp17)) ?_
      rintro _ _ ⟨rfl, rfl⟩
      refine qS 59 rfl (ok_move · (.tmp rfl)) ?_
      refine qS 60 rfl (ok_beq · tu4 (.inl ⟨rfl, rfl⟩) (.tmp rfl) (.tmp rfl)) ?_
      try dsimp only [w0, w1, w2, w3]
      refine qS 61 rfl (ok_move · (.tmp rfl)) ?_
      rcases ifc h with ⟨hc18, h⟩ | ⟨hc18, h⟩
      · refine qG 61 62 rfl hc18 (ok_move · (.tmp rfl)) ?_
        obtain ⟨p19, hp19, h⟩ := bindo h
        refine q_call_g (t := 61) (dst := some 63) rfl rfl rfl hc18 (.func _) (.cons (.tmp rfl) Evs.nil) (HInv.static glob_Wild.at_ glob_Wild.body (glob_Wild.snd  hp19)) ?_
        rintro _ _ ⟨rfl, rfl⟩
        refine qG 61 64 rfl hc18 (ok_move · (.tmp rfl)) ?_
        try dsimp only [w0, w1, w2, w3]
        rcases ifc h with ⟨hc20, h⟩ | ⟨hc20, h⟩
        · refine q_skip (dst := some 65) (t := 64) rfl rfl rfl hc20 ?_
          refine q_skip (dst := some 66) (t := 64) rfl rfl rfl hc20 ?_
          refine q_skip (dst := some 67) (t := 64) rfl rfl rfl hc20 ?_
          refine q_skip (dst := some 68) (t := 64) rfl rfl rfl hc20 ?_
          try dsimp only [w0, w1, w2, w3]
          refine q_skip (dst := some 69) (t := 64) rfl rfl rfl hc20 ?_
          refine q_skip (dst := some 70) (t := 64) rfl rfl rfl hc20 ?_
          refine q_skip (dst := some 71) (t := 64) rfl rfl rfl hc20 ?_
          refine qG 61 72 rfl hc18 (ok_pick_tt · (.tmp rfl) hc20 (.bool _)) ?_
          try dsimp only [w0, w1, w2, w3]
          try dsimp only [w0, w1, w2, w3]
          exact J6_snd  h
        · refine qG 64 65 rfl (bfalse hc20) (ok_move · (.tmp rfl)) ?_
          refine qG 64 66 rfl (bfalse hc20) (ok_move · (.tmp rfl)) ?_
          obtain ⟨p22, hp22, h⟩ := bindo h
          refine q_call_g (t := 64) (dst := some 67) rfl rfl rfl (bfalse hc20) (.func _) (.cons (.tmp rfl) (.cons (.tmp rfl) Evs.nil)) (HInv.static glob_Match.at_ glob_Match.body (glob_Match.snd  hp22)) ?_
          rintro _ _ ⟨rfl, rfl⟩
          refine qG 64 68 rfl (bfalse hc20) (ok_move · (.tmp rfl)) ?_
          try dsimp only [w0, w1, w2, w3]
          refine qG 64 69 rfl (bfalse hc20) (ok_move · (.tmp rfl)) ?_
          obtain ⟨p23, hp23, h⟩ := bindo h
          refine q_call_g (t := 64) (dst := some 70) rfl rfl rfl (bfalse hc20) (.func _) (.cons (.tmp rfl) (.cons (.tmp rfl) Evs.nil)) (HInv.static rollcallref01_Same.at_ rollcallref01_Same.body (rollcallref01_Same.snd  hp23)) ?_
          rintro _ _ ⟨rfl, rfl⟩
          refine qG 64 71 rfl (bfalse hc20) (ok_beq · tu4 (.inl ⟨rfl, rfl⟩) (.tmp rfl) (.tmp rfl)) ?_
          refine qG 61 72 rfl hc18 (ok_pick_ff · (.tmp rfl) (bfalse hc20) (.tmp rfl)) ?_
          try dsimp only [w0, w1, w2, w3]
          try dsimp only [w0, w1, w2, w3]
          exact J6_snd  h
      · refine q_skip (dst := some 62) (t := 61) rfl rfl rfl (bfalse hc18) ?_
        refine q_skip (dst := some 63) (t := 61) rfl rfl rfl (bfalse hc18) ?_
        refine q_skip (dst := some 64) (t := 61) rfl rfl rfl (bfalse hc18) ?_
        try dsimp only [w0, w1, w2, w3]
        refine q_skip_u (dst := some 65) (t := 64) rfl rfl rfl ?_
        refine q_skip_u (dst := some 66) (t := 64) rfl rfl rfl ?_
        refine q_skip_u (dst := some 67) (t := 64) rfl rfl rfl ?_
        refine q_skip_u (dst := some 68) (t := 64) rfl rfl rfl ?_
        try dsimp only [w0, w1, w2, w3]
        refine q_skip_u (dst := some 69) (t := 64) rfl rfl rfl ?_
        refine q_skip_u (dst := some 70) (t := 64) rfl rfl rfl ?_
        refine q_skip_u (dst := some 71) (t := 64) rfl rfl rfl ?_
        refine q_skip (dst := some 72) (t := 61) rfl rfl rfl (bfalse hc18) ?_
        try dsimp only [w0, w1, w2, w3]
        refine qS 73 rfl (ok_pick_ff · (.tmp rfl) (bfalse hc18) (.bool _)) ?_
        try dsimp only [w0, w1, w2, w3]
        exact J7_snd  h
def J1 (k : Nat) (y0 : (List UInt8)) (y1 : (List UInt8)) (y2 : (List UInt8)) (y24 : Bool) (S : HS) : Option ((Bool) × HS) :=
  (if y24 = true then
  some (true, S) else
  L2 k k y0 y1 y2 false 0 S)
theorem J1_snd {k : Nat}  {y0 : (List UInt8)} {y1 : (List UInt8)} {y2 : (List UInt8)} {y24 : Bool} {S : HS} {p : (Bool) × HS} {g3 g4 g5 g6 g7 g8 g9 g10 g11 g12 g13 g14 g15 g16 g17 g18 g19 g20 g21 g22 g23 g25 g26 g27 g28 g29 g30 g31 g32 g33 g34 g35 g36 g37 g38 g39 g40 g41 g42 g43 g44 g45 g46 g47 g48 g49 g50 g51 g52 g53 g54 g55 g56 g57 g58 g59 g60 g61 g62 g63 g64 g65 g66 g67 g68 g69 g70 g71 g72 g73 : HV} (h : J1 k y0 y1 y2 y24 S = some p) : HRun Tryd.prog base W0 β0 7 none [.code c13, .code c18] ⟨[(.str y0), (.str y1), (.str y2), g3, g4, g5, g6, g7, g8, g9, g10, g11, g12, g13, g14, g15, g16, g17, g18, g19, g20, g21, g22, g23, (.bool y24), g25, g26, g27, g28, g29, g30, g31, g32, g33, g34, g35, g36, g37, g38, g39, g40, g41, g42, g43, g44, g45, g46, g47, g48, g49, g50, g51, g52, g53, g54, g55, g56, g57, g58, g59, g60, g61, g62, g63, g64, g65, g66, g67, g68, g69, g70, g71, g72, g73], []⟩ S (fun v S1 => v = (.bool p.1) ∧ S1 = p.2) := by
  unfold J1 at h
  rcases ifc h with ⟨hc5, h⟩ | ⟨hc5, h⟩
  · refine q_cond_t rfl (.tmp rfl) hc5 ?_
    refine q_seq rfl ?_
    refine q_region rfl rfl ?_
    refine qS 6 rfl (ok_assign · (.bool _)) ?_
    refine hr_region_end ?_
    try dsimp only [w0, w1, w2, w3]
    cases h
    exact q_ret rfl at_.at_ rfl (res1 rfl rfl) ⟨rfl, rfl⟩
  · refine q_cond_f rfl (.tmp rfl) (bfalse hc5) ?_
    refine q_skipc rfl ?_
    refine q_seq rfl ?_
    refine q_region rfl rfl ?_
    refine qS 7 rfl (ok_assign · (.bool _)) ?_
    refine hr_region_end ?_
    try dsimp only [w0, w1, w2, w3]
    refine q_seq rfl ?_
    refine q_seq rfl ?_
    refine q_region rfl rfl ?_
    refine qS 8 rfl (ok_assign · (.int _ _)) ?_
    refine hr_region_end ?_
    try dsimp only [w0, w1, w2, w3]
    refine q_block rfl ?_
    refine q_loop rfl ?_
    try dsimp only [w0, w1, w2, w3]
    exact L2_snd  h
def J0 (k : Nat) (y0 : (List UInt8)) (y1 : (List UInt8)) (y2 : (List UInt8)) (y19 : Bool) (S : HS) : Option ((Bool) × HS) :=
  (if y19 = true then
  J1 k y0 y1 y2 true S else
  J1 k y0 y1 y2 (decide ((List.length y2 : Int) > 30)) S)
theorem J0_snd {k : Nat}  {y0 : (List UInt8)} {y1 : (List UInt8)} {y2 : (List UInt8)} {y19 : Bool} {S : HS} {p : (Bool) × HS} {g3 g4 g5 g6 g7 g8 g9 g10 g11 g12 g13 g14 g15 g16 g17 g18 g20 g21 g22 g23 g24 g25 g26 g27 g28 g29 g30 g31 g32 g33 g34 g35 g36 g37 g38 g39 g40 g41 g42 g43 g44 g45 g46 g47 g48 g49 g50 g51 g52 g53 g54 g55 g56 g57 g58 g59 g60 g61 g62 g63 g64 g65 g66 g67 g68 g69 g70 g71 g72 g73 : HV} (h : J0 k y0 y1 y2 y19 S = some p) : HRun Tryd.prog base W0 β0 7 none [.inRegion r12 [8, 9, 10, 11, 12], .code c13, .code c18] ⟨[(.str y0), (.str y1), (.str y2), g3, g4, g5, g6, g7, g8, g9, g10, g11, g12, g13, g14, g15, g16, g17, g18, (.bool y19), g20, g21, g22, g23, g24, g25, g26, g27, g28, g29, g30, g31, g32, g33, g34, g35, g36, g37, g38, g39, g40, g41, g42, g43, g44, g45, g46, g47, g48, g49, g50, g51, g52, g53, g54, g55, g56, g57, g58, g59, g60, g61, g62, g63, g64, g65, g66, g67, g68, g69, g70, g71, g72, g73], []⟩ S (fun v S1 => v = (.bool p.1) ∧ S1 = p.2) := by
  unfold J0 at h
  refine qS 20 rfl (ok_move · (.tmp rfl)) ?_
  rcases ifc h with ⟨hc4, h⟩ | ⟨hc4, h⟩
  · refine q_skip (dst := some 21) (t := 20) rfl rfl rfl hc4 ?_
    refine q_skip (dst := some 22) (t := 20) rfl rfl rfl hc4 ?_
    refine q_skip (dst := some 23) (t := 20) rfl rfl rfl hc4 ?_
    try dsimp only [w0, w1, w2, w3]
    refine qS 24 rfl (ok_pick_tt · (.tmp rfl) hc4 (.bool _)) ?_
    refine hr_region_end ?_
    try dsimp only [w0, w1, w2, w3]
    try dsimp only [w0, w1, w2, w3]
    exact J1_snd  h
  · refine qG 20 21 rfl (bfalse hc4) (ok_move · (.tmp rfl)) ?_
    refine qG 20 22 rfl (bfalse hc4) (ok_len_str · rfl tu9 (.tmp rfl)) ?_
    refine qG 20 23 rfl (bfalse hc4) (ok_ibin · (.tmp rfl) (.int _ _) rfl) ?_
    try dsimp only [w0, w1, w2, w3]
    refine qS 24 rfl (ok_pick_ff · (.tmp rfl) (bfalse hc4) (.tmp rfl)) ?_
    refine hr_region_end ?_
    try dsimp only [w0, w1, w2, w3]
    try dsimp only [w0, w1, w2, w3]
    exact J1_snd  h
def f (k : Nat) (x0 : (List UInt8)) (x1 : (List UInt8)) (x2 : (List UInt8)) (S : HS) : Option ((Bool) × HS) :=
  (Option.bind (rollcalllaw04_awake.f k S) fun p1 =>
  (if (!p1.1) = true then
  some (false, p1.2) else
  (if (List.length x0 : Int) > 30 then
  J0 k x0 x1 x2 true p1.2 else
  J0 k x0 x1 x2 (decide ((List.length x1 : Int) > 30)) p1.2)))
theorem snd {k : Nat} {x0 : (List UInt8)} {x1 : (List UInt8)} {x2 : (List UInt8)} {S : HS}  {p : (Bool) × HS} (h : f k x0 x1 x2 S = some p) : HCall Tryd.prog base W0 β0 7 [(.str x0), (.str x1), (.str x2)] S (fun v S1 => v = (.bool p.1) ∧ S1 = p.2) := by
  unfold f at h
  refine HCall.of_run at_.at_ body ?_
  show HRun Tryd.prog base W0 β0 7 none [.code c0] ⟨[(.str x0), (.str x1), (.str x2), τ, τ, τ, τ, τ, τ, τ, τ, τ, τ, τ, τ, τ, τ, τ, τ, τ, τ, τ, τ, τ, τ, τ, τ, τ, τ, τ, τ, τ, τ, τ, τ, τ, τ, τ, τ, τ, τ, τ, τ, τ, τ, τ, τ, τ, τ, τ, τ, τ, τ, τ, τ, τ, τ, τ, τ, τ, τ, τ, τ, τ, τ, τ, τ, τ, τ, τ, τ, τ, τ, τ], []⟩ S _
  refine q_seq rfl ?_
  refine q_region rfl rfl ?_
  refine qS 6 rfl (ok_assign · (.bool _)) ?_
  refine hr_region_end ?_
  try dsimp only [w0, w1, w2, w3]
  refine q_seq rfl ?_
  refine q_seq rfl ?_
  refine q_region rfl rfl ?_
  obtain ⟨p1, hp1, h⟩ := bindo h
  refine q_call (dst := some 10) rfl (.func _) Evs.nil (HInv.static rollcalllaw04_awake.at_ rollcalllaw04_awake.body (rollcalllaw04_awake.snd  hp1)) ?_
  rintro _ _ ⟨rfl, rfl⟩
  refine qS 11 rfl (ok_not · (.tmp rfl)) ?_
  refine hr_region_end ?_
  try dsimp only [w0, w1, w2, w3]
  rcases ifc h with ⟨hc2, h⟩ | ⟨hc2, h⟩
  · refine q_cond_t rfl (.tmp rfl) hc2 ?_
    refine q_seq rfl ?_
    refine q_region rfl rfl ?_
    refine qS 6 rfl (ok_assign · (.bool _)) ?_
    refine hr_region_end ?_
    try dsimp only [w0, w1, w2, w3]
    cases h
    exact q_ret rfl at_.at_ rfl (res1 rfl rfl) ⟨rfl, rfl⟩
  · refine q_cond_f rfl (.tmp rfl) (bfalse hc2) ?_
    refine q_skipc rfl ?_
    refine q_seq rfl ?_
    refine q_seq rfl ?_
    refine q_region rfl rfl ?_
    refine qS 12 rfl (ok_move · (.tmp rfl)) ?_
    refine qS 13 rfl (ok_len_str · rfl tu9 (.tmp rfl)) ?_
    refine qS 14 rfl (ok_ibin · (.tmp rfl) (.int _ _) rfl) ?_
    refine qS 15 rfl (ok_move · (.tmp rfl)) ?_
    try dsimp only [w0, w1, w2, w3]
    rcases ifc h with ⟨hc3, h⟩ | ⟨hc3, h⟩
    · refine q_skip (dst := some 16) (t := 15) rfl rfl rfl (decide_eq_true hc3) ?_
      refine q_skip (dst := some 17) (t := 15) rfl rfl rfl (decide_eq_true hc3) ?_
      refine q_skip (dst := some 18) (t := 15) rfl rfl rfl (decide_eq_true hc3) ?_
      refine qS 19 rfl (ok_pick_tt · (.tmp rfl) (decide_eq_true hc3) (.bool _)) ?_
      try dsimp only [w0, w1, w2, w3]
      try dsimp only [w0, w1, w2, w3]
      exact J0_snd  h
    · refine qG 15 16 rfl (decide_eq_false hc3) (ok_move · (.tmp rfl)) ?_
      refine qG 15 17 rfl (decide_eq_false hc3) (ok_len_str · rfl tu9 (.tmp rfl)) ?_
      refine qG 15 18 rfl (decide_eq_false hc3) (ok_ibin · (.tmp rfl) (.int _ _) rfl) ?_
      refine qS 19 rfl (ok_pick_ff · (.tmp rfl) (decide_eq_false hc3) (.tmp rfl)) ?_
      try dsimp only [w0, w1, w2, w3]
      try dsimp only [w0, w1, w2, w3]
      exact J0_snd  h
end
end rollcalllaw04_GlobParts
namespace rollcalllaw04_marked
theorem at_ : FnAt Tryd.prog 22 Tryd.f22 := ⟨Tryd.func22, by kernel_rfl⟩
noncomputable def d0 := (Tryd.f22.body).getD .skip
noncomputable def r1 := kR (kA d0)
noncomputable def r4 := kR (kA (kA (kB d0)))
noncomputable def d5 := kB (kA (kB d0))
noncomputable def r9 := kR (kA (kA (kA (kA d5))))
noncomputable def d15 := kA (kA (kB (kA (kA d5))))
noncomputable def r16 := kR (kA d15)
noncomputable def r19 := kR (kA (kA (kB d15)))
noncomputable def r22 := kR (kB (kB (kA (kA d5))))
noncomputable def r24 := kR (kA (kB (kB d0)))
noncomputable def c23 : Code := .seq (.region 6 r24 false) .ret
noncomputable def c22 : Code := .region 3 r22 false
noncomputable def c17 : Code := .cond (.tmp 25) (.seq (.region 5 r19 false) .ret) .skip
noncomputable def c7 : Code := .seq (.seq (.region 2 r9 false) (.cond (.tmp 7) .skip (.exit 0))) (.seq (.block 1 (.seq (.region 4 r16 false) c17)) c22)
noncomputable def c0 : Code := .seq (.region 0 r1 false) (.seq (.seq (.region 1 r4 false) (.block 0 (.loop c7))) c23)
theorem body : Tryd.f22.body = some c0 := by kernel_rfl
section
variable {base : Nat} {W0 : World} {β0 : Bt}
def J2 (k : Nat) (rec0 : (List UInt8) → Int → Option (Bool)) (y0 : (List UInt8)) (y3 : Int) (y25 : Bool) : Option (Bool) :=
  (if y25 = true then
  some true else
  rec0 y0 (w64 (y3 + 1)))
theorem J2_snd {k : Nat} {rec0 : (List UInt8) → Int → Option (Bool)} (hrec0 : ∀ ⦃y0 : (List UInt8)⦄ ⦃y3 : Int⦄ ⦃S : HS⦄ ⦃p : Bool⦄ ⦃g1 g2 g4 g5 g6 g7 g8 g9 g10 g11 g12 g13 g14 g15 g16 g17 g18 g19 g20 g21 g22 g23 g24 g25 : HV⦄, rec0 y0 y3 = some p → HRun Tryd.prog base W0 β0 22 none [.inLoop c7, .inBlock 0, .code c23] ⟨[(.str y0), g1, g2, (.int .i64 y3), g4, g5, g6, g7, g8, g9, g10, g11, g12, g13, g14, g15, g16, g17, g18, g19, g20, g21, g22, g23, g24, g25], []⟩ S (fun v S1 => v = (.bool p) ∧ S1 = S)) {y0 : (List UInt8)} {y3 : Int} {y25 : Bool} {S : HS} {p : Bool} {g1 g2 g4 g5 g6 g7 g8 g9 g10 g11 g12 g13 g14 g15 g16 g17 g18 g19 g20 g21 g22 g23 g24 : HV} (h : J2 k rec0 y0 y3 y25 = some p) : HRun Tryd.prog base W0 β0 22 none [.code c17, .inBlock 1, .code c22, .inLoop c7, .inBlock 0, .code c23] ⟨[(.str y0), g1, g2, (.int .i64 y3), g4, g5, g6, g7, g8, g9, g10, g11, g12, g13, g14, g15, g16, g17, g18, g19, g20, g21, g22, g23, g24, (.bool y25)], []⟩ S (fun v S1 => v = (.bool p) ∧ S1 = S) := by
  unfold J2 at h
  rcases ifc h with ⟨hc5, h⟩ | ⟨hc5, h⟩
  · refine q_cond_t rfl (.tmp rfl) hc5 ?_
    refine q_seq rfl ?_
    refine q_region rfl rfl ?_
    refine qS 2 rfl (ok_assign · (.bool _)) ?_
    refine hr_region_end ?_
    try dsimp only [w0, w1, w2, w3]
    cases h
    exact q_ret rfl at_.at_ rfl (res1 rfl rfl) ⟨rfl, rfl⟩
  · refine q_cond_f rfl (.tmp rfl) (bfalse hc5) ?_
    refine q_skipc rfl ?_
    refine hr_inBlock ?_
    refine q_region rfl rfl ?_
    refine qS 8 rfl (ok_move · (.tmp rfl)) ?_
    refine qS 9 rfl (ok_ibin · (.tmp rfl) (.int _ _) rfl) ?_
    refine qS 3 rfl (ok_assign · (.tmp rfl)) ?_
    refine hr_region_end ?_
    try dsimp only [w0, w1, w2, w3]
    try dsimp only [w0, w1, w2, w3]
    exact hrec0 h
def J1 (k : Nat) (rec0 : (List UInt8) → Int → Option (Bool)) (y0 : (List UInt8)) (y3 : Int) (y19 : Bool) : Option (Bool) :=
  (if y19 = true then
  J2 k rec0 y0 y3 true else
  (Option.bind (sat y0 y3) fun p6 =>
  J2 k rec0 y0 y3 (decide ((UInt8.toNat p6 : Int) = 63))))
theorem J1_snd {k : Nat} {rec0 : (List UInt8) → Int → Option (Bool)} (hrec0 : ∀ ⦃y0 : (List UInt8)⦄ ⦃y3 : Int⦄ ⦃S : HS⦄ ⦃p : Bool⦄ ⦃g1 g2 g4 g5 g6 g7 g8 g9 g10 g11 g12 g13 g14 g15 g16 g17 g18 g19 g20 g21 g22 g23 g24 g25 : HV⦄, rec0 y0 y3 = some p → HRun Tryd.prog base W0 β0 22 none [.inLoop c7, .inBlock 0, .code c23] ⟨[(.str y0), g1, g2, (.int .i64 y3), g4, g5, g6, g7, g8, g9, g10, g11, g12, g13, g14, g15, g16, g17, g18, g19, g20, g21, g22, g23, g24, g25], []⟩ S (fun v S1 => v = (.bool p) ∧ S1 = S)) {y0 : (List UInt8)} {y3 : Int} {y19 : Bool} {S : HS} {p : Bool} {g1 g2 g4 g5 g6 g7 g8 g9 g10 g11 g12 g13 g14 g15 g16 g17 g18 g20 g21 g22 g23 g24 g25 : HV} (h : J1 k rec0 y0 y3 y19 = some p) : HRun Tryd.prog base W0 β0 22 none [.inRegion r16 [10, 11, 12, 13, 14, 15], .code c17, .inBlock 1, .code c22, .inLoop c7, .inBlock 0, .code c23] ⟨[(.str y0), g1, g2, (.int .i64 y3), g4, g5, g6, g7, g8, g9, g10, g11, g12, g13, g14, g15, g16, g17, g18, (.bool y19), g20, g21, g22, g23, g24, g25], []⟩ S (fun v S1 => v = (.bool p) ∧ S1 = S) := by
  unfold J1 at h
  refine qS 20 rfl (ok_move · (.tmp rfl)) ?_
  rcases ifc h with ⟨hc4, h⟩ | ⟨hc4, h⟩
  · refine q_skip (dst := some 21) (t := 20) rfl rfl rfl hc4 ?_
    try dsimp only [w0, w1, w2, w3]
    refine q_skip (dst := some 22) (t := 20) rfl rfl rfl hc4 ?_
    refine q_skip (dst := some 23) (t := 20) rfl rfl rfl hc4 ?_
    refine q_skip (dst := some 24) (t := 20) rfl rfl rfl hc4 ?_
    refine qS 25 rfl (ok_pick_tt · (.tmp rfl) hc4 (.bool _)) ?_
    refine hr_region_end ?_
    try dsimp only [w0, w1, w2, w3]
    try dsimp only [w0, w1, w2, w3]
    exact J2_snd hrec0 h
  · refine qG 20 21 rfl (bfalse hc4) (ok_move · (.tmp rfl)) ?_
    try dsimp only [w0, w1, w2, w3]
    refine qG 20 22 rfl (bfalse hc4) (ok_move · (.tmp rfl)) ?_
    obtain ⟨p6, hp6, h⟩ := bindo h
    refine qG 20 23 rfl (bfalse hc4) (ok_index_s · tu9 (.tmp rfl) (.tmp rfl) hp6) ?_
    refine qG 20 24 rfl (bfalse hc4) (ok_ibin · (.tmp rfl) (.int _ _) rfl) ?_
    refine qS 25 rfl (ok_pick_ff · (.tmp rfl) (bfalse hc4) (.tmp rfl)) ?_
    refine hr_region_end ?_
    try dsimp only [w0, w1, w2, w3]
    try dsimp only [w0, w1, w2, w3]
    exact J2_snd hrec0 h
def L0 (k : Nat) : Nat → (List UInt8) → Int → Option (Bool)
  | 0, _, _ => none
  | n + 1, y0, y3 =>
    (if y3 < (List.length y0 : Int) then
    (Option.bind (sat y0 y3) fun p2 =>
    (if (UInt8.toNat p2 : Int) = 33 then
    J1 k (L0 k n) y0 y3 true else
    (Option.bind (sat y0 y3) fun p7 =>
    J1 k (L0 k n) y0 y3 (decide ((UInt8.toNat p7 : Int) = 64))))) else
    some false)
theorem L0_snd {k : Nat}  : ∀ {n : Nat} ⦃y0 : (List UInt8)⦄ ⦃y3 : Int⦄ ⦃S : HS⦄ ⦃p : Bool⦄ ⦃g1 g2 g4 g5 g6 g7 g8 g9 g10 g11 g12 g13 g14 g15 g16 g17 g18 g19 g20 g21 g22 g23 g24 g25 : HV⦄, L0 k n y0 y3 = some p → HRun Tryd.prog base W0 β0 22 none [.inLoop c7, .inBlock 0, .code c23] ⟨[(.str y0), g1, g2, (.int .i64 y3), g4, g5, g6, g7, g8, g9, g10, g11, g12, g13, g14, g15, g16, g17, g18, g19, g20, g21, g22, g23, g24, g25], []⟩ S (fun v S1 => v = (.bool p) ∧ S1 = S) := by
  intro n
  induction n with
  | zero => intro _ _ _ _ _ _ _ _ _ _ _ _ _ _ _ _ _ _ _ _ _ _ _ _ _ _ _ _ h; cases h
  | succ n ih =>
    intro y0 y3 S p g1 g2 g4 g5 g6 g7 g8 g9 g10 g11 g12 g13 g14 g15 g16 g17 g18 g19 g20 g21 g22 g23 g24 g25 h
    simp only [L0] at h
    refine hr_inLoop ?_
    refine q_seq rfl ?_
    refine q_seq rfl ?_
    refine q_region rfl rfl ?_
    refine qS 4 rfl (ok_move · (.tmp rfl)) ?_
    refine qS 5 rfl (ok_move · (.tmp rfl)) ?_
    refine qS 6 rfl (ok_len_str · rfl tu9 (.tmp rfl)) ?_
    refine qS 7 rfl (ok_ibin · (.tmp rfl) (.tmp rfl) rfl) ?_
    refine hr_region_end ?_
    try dsimp only [w0, w1, w2, w3]
    rcases ifc h with ⟨hc1, h⟩ | ⟨hc1, h⟩
    · refine q_cond_t rfl (.tmp rfl) (decide_eq_true hc1) ?_
      refine q_skipc rfl ?_
      refine q_seq rfl ?_
      refine q_block rfl ?_
      refine q_seq rfl ?_
      refine q_region rfl rfl ?_
      refine qS 10 rfl (ok_move · (.tmp rfl)) ?_
      refine qS 11 rfl (ok_move · (.tmp rfl)) ?_
      obtain ⟨p2, hp2, h⟩ := bindo h
      refine qS 12 rfl (ok_index_s · tu9 (.tmp rfl) (.tmp rfl) hp2) ?_
      refine qS 13 rfl (ok_ibin · (.tmp rfl) (.int _ _) rfl) ?_
      try dsimp only [w0, w1, w2, w3]
      refine qS 14 rfl (ok_move · (.tmp rfl)) ?_
      rcases ifc h with ⟨hc3, h⟩ | ⟨hc3, h⟩
      · refine q_skip (dst := some 15) (t := 14) rfl rfl rfl (decide_eq_true hc3) ?_
        refine q_skip (dst := some 16) (t := 14) rfl rfl rfl (decide_eq_true hc3) ?_
        refine q_skip (dst := some 17) (t := 14) rfl rfl rfl (decide_eq_true hc3) ?_
        try dsimp only [w0, w1, w2, w3]
        refine q_skip (dst := some 18) (t := 14) rfl rfl rfl (decide_eq_true hc3) ?_
        refine qS 19 rfl (ok_pick_tt · (.tmp rfl) (decide_eq_true hc3) (.bool _)) ?_
        try dsimp only [w0, w1, w2, w3]
        exact J1_snd ih h
      · refine qG 14 15 rfl (decide_eq_false hc3) (ok_move · (.tmp rfl)) ?_
        refine qG 14 16 rfl (decide_eq_false hc3) (ok_move · (.tmp rfl)) ?_
        obtain ⟨p7, hp7, h⟩ := bindo h
        refine qG 14 17 rfl (decide_eq_false hc3) (ok_index_s · tu9 (.tmp rfl) (.tmp rfl) hp7) ?_
        try dsimp only [w0, w1, w2, w3]
        refine qG 14 18 rfl (decide_eq_false hc3) (ok_ibin · (.tmp rfl) (.int _ _) rfl) ?_
        refine qS 19 rfl (ok_pick_ff · (.tmp rfl) (decide_eq_false hc3) (.tmp rfl)) ?_
        try dsimp only [w0, w1, w2, w3]
        exact J1_snd ih h
    · refine q_cond_f rfl (.tmp rfl) (decide_eq_false hc1) ?_
      refine q_exit rfl rfl ?_
      refine q_seq rfl ?_
      refine q_region rfl rfl ?_
      refine qS 2 rfl (ok_assign · (.bool _)) ?_
      refine hr_region_end ?_
      try dsimp only [w0, w1, w2, w3]
      cases h
      exact q_ret rfl at_.at_ rfl (res1 rfl rfl) ⟨rfl, rfl⟩
def f (k : Nat) (x0 : (List UInt8)) : Option (Bool) :=
  L0 k k x0 0
theorem snd {k : Nat} {x0 : (List UInt8)} {S : HS}  {p : Bool} (h : f k x0 = some p) : HCall Tryd.prog base W0 β0 22 [(.str x0)] S (fun v S1 => v = (.bool p) ∧ S1 = S) := by
  unfold f at h
  refine HCall.of_run at_.at_ body ?_
  show HRun Tryd.prog base W0 β0 22 none [.code c0] ⟨[(.str x0), τ, τ, τ, τ, τ, τ, τ, τ, τ, τ, τ, τ, τ, τ, τ, τ, τ, τ, τ, τ, τ, τ, τ, τ, τ], []⟩ S _
  refine q_seq rfl ?_
  refine q_region rfl rfl ?_
  refine qS 2 rfl (ok_assign · (.bool _)) ?_
  refine hr_region_end ?_
  try dsimp only [w0, w1, w2, w3]
  refine q_seq rfl ?_
  refine q_seq rfl ?_
  refine q_region rfl rfl ?_
  refine qS 3 rfl (ok_assign · (.int _ _)) ?_
  refine hr_region_end ?_
  try dsimp only [w0, w1, w2, w3]
  refine q_block rfl ?_
  refine q_loop rfl ?_
  try dsimp only [w0, w1, w2, w3]
  exact L0_snd  h
end
end rollcalllaw04_marked
namespace strings_Index
theorem at_ : FnAt Tryd.prog 50 Tryd.f50 := ⟨Tryd.func50, by kernel_rfl⟩
noncomputable def d0 := (Tryd.f50.body).getD .skip
noncomputable def r1 := kR (kA d0)
noncomputable def r3 := kR (kA (kB d0))
noncomputable def c0 : Code := .seq (.region 0 r1 false) (.seq (.region 1 r3 false) .ret)
theorem body : Tryd.f50.body = some c0 := by kernel_rfl
section
variable {base : Nat} {W0 : World} {β0 : Bt}
def f (k : Nat) (x0 : (List UInt8)) (x1 : (List UInt8)) (S : HS) : Option ((Int) × HS) :=
  (Option.bind (internal_stringslite_Index.f k x0 x1 S) fun p1 =>
  some (p1.1, p1.2))
theorem snd {k : Nat} {x0 : (List UInt8)} {x1 : (List UInt8)} {S : HS}  {p : (Int) × HS} (h : f k x0 x1 S = some p) : HCall Tryd.prog base W0 β0 50 [(.str x0), (.str x1)] S (fun v S1 => v = (.int .i64 p.1) ∧ S1 = p.2) := by
  unfold f at h
  refine HCall.of_run at_.at_ body ?_
  show HRun Tryd.prog base W0 β0 50 none [.code c0] ⟨[(.str x0), (.str x1), τ, τ, τ, τ, τ, τ], []⟩ S _
  refine q_seq rfl ?_
  refine q_region rfl rfl ?_
  refine qS 4 rfl (ok_assign · (.int _ _)) ?_
  refine hr_region_end ?_
  try dsimp only [w0, w1, w2, w3]
  refine q_seq rfl ?_
  refine q_region rfl rfl ?_
  refine qS 5 rfl (ok_move · (.tmp rfl)) ?_
  refine qS 6 rfl (ok_move · (.tmp rfl)) ?_
  obtain ⟨p1, hp1, h⟩ := bindo h
  refine q_call (dst := some 7) rfl (.func _) (.cons (.tmp rfl) (.cons (.tmp rfl) Evs.nil)) (HInv.static internal_stringslite_Index.at_ internal_stringslite_Index.body (internal_stringslite_Index.snd  hp1)) ?_
  rintro _ _ ⟨rfl, rfl⟩
  refine qS 4 rfl (ok_assign · (.tmp rfl)) ?_
  refine hr_region_end ?_
  try dsimp only [w0, w1, w2, w3]
  cases h
  exact q_ret rfl at_.at_ rfl (res1 rfl rfl) ⟨rfl, rfl⟩
end
end strings_Index
namespace strings_Contains
theorem at_ : FnAt Tryd.prog 33 Tryd.f33 := ⟨Tryd.func33, by kernel_rfl⟩
noncomputable def d0 := (Tryd.f33.body).getD .skip
noncomputable def r1 := kR (kA d0)
noncomputable def r3 := kR (kA (kB d0))
noncomputable def c0 : Code := .seq (.region 0 r1 false) (.seq (.region 1 r3 false) .ret)
theorem body : Tryd.f33.body = some c0 := by kernel_rfl
section
variable {base : Nat} {W0 : World} {β0 : Bt}
def f (k : Nat) (x0 : (List UInt8)) (x1 : (List UInt8)) (S : HS) : Option ((Bool) × HS) :=
  (Option.bind (strings_Index.f k x0 x1 S) fun p1 =>
  some ((decide (p1.1 ≥ 0)), p1.2))
theorem snd {k : Nat} {x0 : (List UInt8)} {x1 : (List UInt8)} {S : HS}  {p : (Bool) × HS} (h : f k x0 x1 S = some p) : HCall Tryd.prog base W0 β0 33 [(.str x0), (.str x1)] S (fun v S1 => v = (.bool p.1) ∧ S1 = p.2) := by
  unfold f at h
  refine HCall.of_run at_.at_ body ?_
  show HRun Tryd.prog base W0 β0 33 none [.code c0] ⟨[(.str x0), (.str x1), τ, τ, τ, τ, τ, τ, τ], []⟩ S _
  refine q_seq rfl ?_
  refine q_region rfl rfl ?_
  refine qS 4 rfl (ok_assign · (.bool _)) ?_
  refine hr_region_end ?_
  try dsimp only [w0, w1, w2, w3]
  refine q_seq rfl ?_
  refine q_region rfl rfl ?_
  refine qS 5 rfl (ok_move · (.tmp rfl)) ?_
  refine qS 6 rfl (ok_move · (.tmp rfl)) ?_
  obtain ⟨p1, hp1, h⟩ := bindo h
  refine q_call (dst := some 7) rfl (.func _) (.cons (.tmp rfl) (.cons (.tmp rfl) Evs.nil)) (HInv.static strings_Index.at_ strings_Index.body (strings_Index.snd  hp1)) ?_
  rintro _ _ ⟨rfl, rfl⟩
  refine qS 8 rfl (ok_ibin · (.tmp rfl) (.int _ _) rfl) ?_
  try dsimp only [w0, w1, w2, w3]
  refine qS 4 rfl (ok_assign · (.tmp rfl)) ?_
  refine hr_region_end ?_
  try dsimp only [w0, w1, w2, w3]
  cases h
  exact q_ret rfl at_.at_ rfl (res1 rfl rfl) ⟨rfl, rfl⟩
end
end strings_Contains
namespace glob_Cut
theorem at_ : FnAt Tryd.prog 16 Tryd.f16 := ⟨Tryd.func16, by kernel_rfl⟩
noncomputable def d0 := (Tryd.f16.body).getD .skip
noncomputable def r1 := kR (kA d0)
noncomputable def r3 := kR (kA (kB d0))
noncomputable def r5 := kR (kA (kB (kB d0)))
noncomputable def r8 := kR (kA (kA (kB (kB (kB d0)))))
noncomputable def r11 := kR (kA (kA (kB (kA (kB (kB (kB d0)))))))
noncomputable def r15 := kR (kA (kB (kB (kB (kB d0)))))
noncomputable def c14 : Code := .seq (.region 5 r15 false) .ret
noncomputable def c9 : Code := .cond (.tmp 42) (.seq (.region 4 r11 false) .ret) .skip
noncomputable def c0 : Code := .seq (.region 0 r1 false) (.seq (.region 1 r3 false) (.seq (.region 2 r5 false) (.seq (.seq (.region 3 r8 false) c9) c14)))
theorem body : Tryd.f16.body = some c0 := by kernel_rfl
section
variable {base : Nat} {W0 : World} {β0 : Bt}
def J4 (k : Nat) (y2 : (List UInt8)) (y3 : (List UInt8)) (y4 : (List UInt8)) (y42 : Bool) (S : HS) : Option (((List UInt8) × (List UInt8) × (List UInt8) × Bool) × HS) :=
  (if y42 = true then
  some ((([] : List UInt8), ([] : List UInt8), ([] : List UInt8), false), S) else
  some ((y2, y3, y4, true), S))
theorem J4_snd {k : Nat}  {y2 : (List UInt8)} {y3 : (List UInt8)} {y4 : (List UInt8)} {y42 : Bool} {S : HS} {p : ((List UInt8) × (List UInt8) × (List UInt8) × Bool) × HS} {g0 g1 g5 g6 g7 g8 g9 g10 g11 g12 g13 g14 g15 g16 g17 g18 g19 g20 g21 g22 g23 g24 g25 g26 g27 g28 g29 g30 g31 g32 g33 g34 g35 g36 g37 g38 g39 g40 g41 g43 g44 g45 : HV} (h : J4 k y2 y3 y4 y42 S = some p) : HRun Tryd.prog base W0 β0 16 none [.code c9, .code c14] ⟨[g0, g1, (.str y2), (.str y3), (.str y4), g5, g6, g7, g8, g9, g10, g11, g12, g13, g14, g15, g16, g17, g18, g19, g20, g21, g22, g23, g24, g25, g26, g27, g28, g29, g30, g31, g32, g33, g34, g35, g36, g37, g38, g39, g40, g41, (.bool y42), g43, g44, g45], []⟩ S (fun v S1 => v = (.tup [(.str p.1.1), (.str p.1.2.1), (.str p.1.2.2.1), (.bool p.1.2.2.2)]) ∧ S1 = p.2) := by
  unfold J4 at h
  rcases ifc h with ⟨hc8, h⟩ | ⟨hc8, h⟩
  · refine q_cond_t rfl (.tmp rfl) hc8 ?_
    refine q_seq rfl ?_
    refine q_region rfl rfl ?_
    refine qS 2 rfl (ok_assign · (.str _)) ?_
    refine qS 3 rfl (ok_assign · (.str _)) ?_
    refine qS 4 rfl (ok_assign · (.str _)) ?_
    refine qS 5 rfl (ok_assign · (.bool _)) ?_
    refine hr_region_end ?_
    try dsimp only [w0, w1, w2, w3]
    cases h
    exact q_ret rfl at_.at_ rfl (res4 rfl rfl rfl rfl rfl) ⟨rfl, rfl⟩
  · refine q_cond_f rfl (.tmp rfl) (bfalse hc8) ?_
    refine q_skipc rfl ?_
    refine q_seq rfl ?_
    refine q_region rfl rfl ?_
    refine qS 43 rfl (ok_move · (.tmp rfl)) ?_
    refine qS 44 rfl (ok_move · (.tmp rfl)) ?_
    refine qS 45 rfl (ok_move · (.tmp rfl)) ?_
    refine qS 2 rfl (ok_assign · (.tmp rfl)) ?_
    try dsimp only [w0, w1, w2, w3]
    refine qS 3 rfl (ok_assign · (.tmp rfl)) ?_
    refine qS 4 rfl (ok_assign · (.tmp rfl)) ?_
    refine qS 5 rfl (ok_assign · (.bool _)) ?_
    refine hr_region_end ?_
    try dsimp only [w0, w1, w2, w3]
    cases h
    exact q_ret rfl at_.at_ rfl (res4 rfl rfl rfl rfl rfl) ⟨rfl, rfl⟩
def J3 (k : Nat) (y2 : (List UInt8)) (y3 : (List UInt8)) (y4 : (List UInt8)) (y38 : Bool) (S : HS) : Option (((List UInt8) × (List UInt8) × (List UInt8) × Bool) × HS) :=
  (if y38 = true then
  J4 k y2 y3 y4 true S else
  (Option.bind (strings_Contains.f k y2 ([64] : List UInt8) S) fun p9 =>
  J4 k y2 y3 y4 p9.1 p9.2))
theorem J3_snd {k : Nat}  {y2 : (List UInt8)} {y3 : (List UInt8)} {y4 : (List UInt8)} {y38 : Bool} {S : HS} {p : ((List UInt8) × (List UInt8) × (List UInt8) × Bool) × HS} {g0 g1 g5 g6 g7 g8 g9 g10 g11 g12 g13 g14 g15 g16 g17 g18 g19 g20 g21 g22 g23 g24 g25 g26 g27 g28 g29 g30 g31 g32 g33 g34 g35 g36 g37 g39 g40 g41 g42 g43 g44 g45 : HV} (h : J3 k y2 y3 y4 y38 S = some p) : HRun Tryd.prog base W0 β0 16 none [.inRegion r8 [18, 19, 20, 21], .code c9, .code c14] ⟨[g0, g1, (.str y2), (.str y3), (.str y4), g5, g6, g7, g8, g9, g10, g11, g12, g13, g14, g15, g16, g17, g18, g19, g20, g21, g22, g23, g24, g25, g26, g27, g28, g29, g30, g31, g32, g33, g34, g35, g36, g37, (.bool y38), g39, g40, g41, g42, g43, g44, g45], []⟩ S (fun v S1 => v = (.tup [(.str p.1.1), (.str p.1.2.1), (.str p.1.2.2.1), (.bool p.1.2.2.2)]) ∧ S1 = p.2) := by
  unfold J3 at h
  refine qS 39 rfl (ok_move · (.tmp rfl)) ?_
  rcases ifc h with ⟨hc7, h⟩ | ⟨hc7, h⟩
  · refine q_skip (dst := some 40) (t := 39) rfl rfl rfl hc7 ?_
    try dsimp only [w0, w1, w2, w3]
    refine q_skip (dst := some 41) (t := 39) rfl rfl rfl hc7 ?_
    refine qS 42 rfl (ok_pick_tt · (.tmp rfl) hc7 (.bool _)) ?_
    refine hr_region_end ?_
    try dsimp only [w0, w1, w2, w3]
    try dsimp only [w0, w1, w2, w3]
    exact J4_snd  h
  · refine qG 39 40 rfl (bfalse hc7) (ok_move · (.tmp rfl)) ?_
    try dsimp only [w0, w1, w2, w3]
    obtain ⟨p9, hp9, h⟩ := bindo h
    refine q_call_g (t := 39) (dst := some 41) rfl rfl rfl (bfalse hc7) (.func _) (.cons (.tmp rfl) (.cons (.str _) Evs.nil)) (HInv.static strings_Contains.at_ strings_Contains.body (strings_Contains.snd  hp9)) ?_
    rintro _ _ ⟨rfl, rfl⟩
    refine qS 42 rfl (ok_pick_ff · (.tmp rfl) (bfalse hc7) (.tmp rfl)) ?_
    refine hr_region_end ?_
    try dsimp only [w0, w1, w2, w3]
    try dsimp only [w0, w1, w2, w3]
    exact J4_snd  h
def J2 (k : Nat) (y2 : (List UInt8)) (y3 : (List UInt8)) (y4 : (List UInt8)) (y34 : Bool) (S : HS) : Option (((List UInt8) × (List UInt8) × (List UInt8) × Bool) × HS) :=
  (if y34 = true then
  J3 k y2 y3 y4 true S else
  J3 k y2 y3 y4 (decide (y4 = ([] : List UInt8))) S)
theorem J2_snd {k : Nat}  {y2 : (List UInt8)} {y3 : (List UInt8)} {y4 : (List UInt8)} {y34 : Bool} {S : HS} {p : ((List UInt8) × (List UInt8) × (List UInt8) × Bool) × HS} {g0 g1 g5 g6 g7 g8 g9 g10 g11 g12 g13 g14 g15 g16 g17 g18 g19 g20 g21 g22 g23 g24 g25 g26 g27 g28 g29 g30 g31 g32 g33 g35 g36 g37 g38 g39 g40 g41 g42 g43 g44 g45 : HV} (h : J2 k y2 y3 y4 y34 S = some p) : HRun Tryd.prog base W0 β0 16 none [.inRegion r8 [14, 15, 16, 17, 18, 19, 20, 21], .code c9, .code c14] ⟨[g0, g1, (.str y2), (.str y3), (.str y4), g5, g6, g7, g8, g9, g10, g11, g12, g13, g14, g15, g16, g17, g18, g19, g20, g21, g22, g23, g24, g25, g26, g27, g28, g29, g30, g31, g32, g33, (.bool y34), g35, g36, g37, g38, g39, g40, g41, g42, g43, g44, g45], []⟩ S (fun v S1 => v = (.tup [(.str p.1.1), (.str p.1.2.1), (.str p.1.2.2.1), (.bool p.1.2.2.2)]) ∧ S1 = p.2) := by
  unfold J2 at h
  refine qS 35 rfl (ok_move · (.tmp rfl)) ?_
  rcases ifc h with ⟨hc6, h⟩ | ⟨hc6, h⟩
  · refine q_skip (dst := some 36) (t := 35) rfl rfl rfl hc6 ?_
    try dsimp only [w0, w1, w2, w3]
    refine q_skip (dst := some 37) (t := 35) rfl rfl rfl hc6 ?_
    refine qS 38 rfl (ok_pick_tt · (.tmp rfl) hc6 (.bool _)) ?_
    try dsimp only [w0, w1, w2, w3]
    exact J3_snd  h
  · refine qG 35 36 rfl (bfalse hc6) (ok_move · (.tmp rfl)) ?_
    try dsimp only [w0, w1, w2, w3]
    refine qG 35 37 rfl (bfalse hc6) (ok_sbin · (.tmp rfl) (.str _) rfl) ?_
    refine qS 38 rfl (ok_pick_ff · (.tmp rfl) (bfalse hc6) (.tmp rfl)) ?_
    try dsimp only [w0, w1, w2, w3]
    exact J3_snd  h
def J1 (k : Nat) (y2 : (List UInt8)) (y3 : (List UInt8)) (y4 : (List UInt8)) (y30 : Bool) (S : HS) : Option (((List UInt8) × (List UInt8) × (List UInt8) × Bool) × HS) :=
  (if y30 = true then
  J2 k y2 y3 y4 true S else
  J2 k y2 y3 y4 (decide (y3 = ([] : List UInt8))) S)
theorem J1_snd {k : Nat}  {y2 : (List UInt8)} {y3 : (List UInt8)} {y4 : (List UInt8)} {y30 : Bool} {S : HS} {p : ((List UInt8) × (List UInt8) × (List UInt8) × Bool) × HS} {g0 g1 g5 g6 g7 g8 g9 g10 g11 g12 g13 g14 g15 g16 g17 g18 g19 g20 g21 g22 g23 g24 g25 g26 g27 g28 g29 g31 g32 g33 g34 g35 g36 g37 g38 g39 g40 g41 g42 g43 g44 g45 : HV} (h : J1 k y2 y3 y4 y30 S = some p) : HRun Tryd.prog base W0 β0 16 none [.inRegion r8 [10, 11, 12, 13, 14, 15, 16, 17, 18, 19, 20, 21], .code c9, .code c14] ⟨[g0, g1, (.str y2), (.str y3), (.str y4), g5, g6, g7, g8, g9, g10, g11, g12, g13, g14, g15, g16, g17, g18, g19, g20, g21, g22, g23, g24, g25, g26, g27, g28, g29, (.bool y30), g31, g32, g33, g34, g35, g36, g37, g38, g39, g40, g41, g42, g43, g44, g45], []⟩ S (fun v S1 => v = (.tup [(.str p.1.1), (.str p.1.2.1), (.str p.1.2.2.1), (.bool p.1.2.2.2)]) ∧ S1 = p.2) := by
  unfold J1 at h
  refine qS 31 rfl (ok_move · (.tmp rfl)) ?_
  rcases ifc h with ⟨hc5, h⟩ | ⟨hc5, h⟩
  · refine q_skip (dst := some 32) (t := 31) rfl rfl rfl hc5 ?_
    try dsimp only [w0, w1, w2, w3]
    refine q_skip (dst := some 33) (t := 31) rfl rfl rfl hc5 ?_
    refine qS 34 rfl (ok_pick_tt · (.tmp rfl) hc5 (.bool _)) ?_
    try dsimp only [w0, w1, w2, w3]
    exact J2_snd  h
  · refine qG 31 32 rfl (bfalse hc5) (ok_move · (.tmp rfl)) ?_
    try dsimp only [w0, w1, w2, w3]
    refine qG 31 33 rfl (bfalse hc5) (ok_sbin · (.tmp rfl) (.str _) rfl) ?_
    refine qS 34 rfl (ok_pick_ff · (.tmp rfl) (bfalse hc5) (.tmp rfl)) ?_
    try dsimp only [w0, w1, w2, w3]
    exact J2_snd  h
def J0 (k : Nat) (y2 : (List UInt8)) (y3 : (List UInt8)) (y4 : (List UInt8)) (y26 : Bool) (S : HS) : Option (((List UInt8) × (List UInt8) × (List UInt8) × Bool) × HS) :=
  (if y26 = true then
  J1 k y2 y3 y4 true S else
  J1 k y2 y3 y4 (decide (y2 = ([] : List UInt8))) S)
theorem J0_snd {k : Nat}  {y2 : (List UInt8)} {y3 : (List UInt8)} {y4 : (List UInt8)} {y26 : Bool} {S : HS} {p : ((List UInt8) × (List UInt8) × (List UInt8) × Bool) × HS} {g0 g1 g5 g6 g7 g8 g9 g10 g11 g12 g13 g14 g15 g16 g17 g18 g19 g20 g21 g22 g23 g24 g25 g27 g28 g29 g30 g31 g32 g33 g34 g35 g36 g37 g38 g39 g40 g41 g42 g43 g44 g45 : HV} (h : J0 k y2 y3 y4 y26 S = some p) : HRun Tryd.prog base W0 β0 16 none [.inRegion r8 [6, 7, 8, 9, 10, 11, 12, 13, 14, 15, 16, 17, 18, 19, 20, 21], .code c9, .code c14] ⟨[g0, g1, (.str y2), (.str y3), (.str y4), g5, g6, g7, g8, g9, g10, g11, g12, g13, g14, g15, g16, g17, g18, g19, g20, g21, g22, g23, g24, g25, (.bool y26), g27, g28, g29, g30, g31, g32, g33, g34, g35, g36, g37, g38, g39, g40, g41, g42, g43, g44, g45], []⟩ S (fun v S1 => v = (.tup [(.str p.1.1), (.str p.1.2.1), (.str p.1.2.2.1), (.bool p.1.2.2.2)]) ∧ S1 = p.2) := by
  unfold J0 at h
  refine qS 27 rfl (ok_move · (.tmp rfl)) ?_
  rcases ifc h with ⟨hc4, h⟩ | ⟨hc4, h⟩
  · refine q_skip (dst := some 28) (t := 27) rfl rfl rfl hc4 ?_
    try dsimp only [w0, w1, w2, w3]
    refine q_skip (dst := some 29) (t := 27) rfl rfl rfl hc4 ?_
    refine qS 30 rfl (ok_pick_tt · (.tmp rfl) hc4 (.bool _)) ?_
    try dsimp only [w0, w1, w2, w3]
    exact J1_snd  h
  · refine qG 27 28 rfl (bfalse hc4) (ok_move · (.tmp rfl)) ?_
    try dsimp only [w0, w1, w2, w3]
    refine qG 27 29 rfl (bfalse hc4) (ok_sbin · (.tmp rfl) (.str _) rfl) ?_
    refine qS 30 rfl (ok_pick_ff · (.tmp rfl) (bfalse hc4) (.tmp rfl)) ?_
    try dsimp only [w0, w1, w2, w3]
    exact J1_snd  h
def f (k : Nat) (x0 : (List UInt8)) (S : HS) : Option (((List UInt8) × (List UInt8) × (List UInt8) × Bool) × HS) :=
  (Option.bind (strings_Cut.f k x0 ([33] : List UInt8) S) fun p1 =>
  (Option.bind (strings_Cut.f k p1.1.2.1 ([64] : List UInt8) p1.2) fun p2 =>
  (if (!p1.1.2.2) = true then
  J0 k p1.1.1 p2.1.1 p2.1.2.1 true p2.2 else
  J0 k p1.1.1 p2.1.1 p2.1.2.1 (!p2.1.2.2) p2.2)))
theorem snd {k : Nat} {x0 : (List UInt8)} {S : HS}  {p : ((List UInt8) × (List UInt8) × (List UInt8) × Bool) × HS} (h : f k x0 S = some p) : HCall Tryd.prog base W0 β0 16 [(.str x0)] S (fun v S1 => v = (.tup [(.str p.1.1), (.str p.1.2.1), (.str p.1.2.2.1), (.bool p.1.2.2.2)]) ∧ S1 = p.2) := by
  unfold f at h
  refine HCall.of_run at_.at_ body ?_
  show HRun Tryd.prog base W0 β0 16 none [.code c0] ⟨[(.str x0), τ, τ, τ, τ, τ, τ, τ, τ, τ, τ, τ, τ, τ, τ, τ, τ, τ, τ, τ, τ, τ, τ, τ, τ, τ, τ, τ, τ, τ, τ, τ, τ, τ, τ, τ, τ, τ, τ, τ, τ, τ, τ, τ, τ, τ], []⟩ S _
  refine q_seq rfl ?_
  refine q_region rfl rfl ?_
  refine qS 2 rfl (ok_assign · (.str _)) ?_
  refine qS 3 rfl (ok_assign · (.str _)) ?_
  refine qS 4 rfl (ok_assign · (.str _)) ?_
  refine qS 5 rfl (ok_assign · (.bool _)) ?_
  refine hr_region_end ?_
  try dsimp only [w0, w1, w2, w3]
  refine q_seq rfl ?_
  refine q_region rfl rfl ?_
  refine qS 10 rfl (ok_move · (.tmp rfl)) ?_
  obtain ⟨p1, hp1, h⟩ := bindo h
  refine q_call (dst := some 11) rfl (.func _) (.cons (.tmp rfl) (.cons (.str _) Evs.nil)) (HInv.static strings_Cut.at_ strings_Cut.body (strings_Cut.snd  hp1)) ?_
  rintro _ _ ⟨rfl, rfl⟩
  refine qS 9 rfl (ok_move · (.tmp rfl)) ?_
  refine qS 12 rfl (ok_extract · (.tmp rfl) rfl) ?_
  try dsimp only [w0, w1, w2, w3]
  refine qS 13 rfl (ok_extract · (.tmp rfl) rfl) ?_
  refine qS 14 rfl (ok_extract · (.tmp rfl) rfl) ?_
  refine qS 2 rfl (ok_assign · (.tmp rfl)) ?_
  refine qS 6 rfl (ok_assign · (.tmp rfl)) ?_
  try dsimp only [w0, w1, w2, w3]
  refine qS 7 rfl (ok_assign · (.tmp rfl)) ?_
  refine hr_region_end ?_
  try dsimp only [w0, w1, w2, w3]
  refine q_seq rfl ?_
  refine q_region rfl rfl ?_
  refine qS 16 rfl (ok_move · (.tmp rfl)) ?_
  obtain ⟨p2, hp2, h⟩ := bindo h
  refine q_call (dst := some 17) rfl (.func _) (.cons (.tmp rfl) (.cons (.str _) Evs.nil)) (HInv.static strings_Cut.at_ strings_Cut.body (strings_Cut.snd  hp2)) ?_
  rintro _ _ ⟨rfl, rfl⟩
  refine qS 15 rfl (ok_move · (.tmp rfl)) ?_
  refine qS 18 rfl (ok_extract · (.tmp rfl) rfl) ?_
  try dsimp only [w0, w1, w2, w3]
  refine qS 19 rfl (ok_extract · (.tmp rfl) rfl) ?_
  refine qS 20 rfl (ok_extract · (.tmp rfl) rfl) ?_
  refine qS 3 rfl (ok_assign · (.tmp rfl)) ?_
  refine qS 4 rfl (ok_assign · (.tmp rfl)) ?_
  try dsimp only [w0, w1, w2, w3]
  refine qS 8 rfl (ok_assign · (.tmp rfl)) ?_
  refine hr_region_end ?_
  try dsimp only [w0, w1, w2, w3]
  refine q_seq rfl ?_
  refine q_seq rfl ?_
  refine q_region rfl rfl ?_
  refine qS 21 rfl (ok_move · (.tmp rfl)) ?_
  refine qS 22 rfl (ok_not · (.tmp rfl)) ?_
  refine qS 23 rfl (ok_move · (.tmp rfl)) ?_
  rcases ifc h with ⟨hc3, h⟩ | ⟨hc3, h⟩
  · refine q_skip (dst := some 24) (t := 23) rfl rfl rfl hc3 ?_
    try dsimp only [w0, w1, w2, w3]
    refine q_skip (dst := some 25) (t := 23) rfl rfl rfl hc3 ?_
    refine qS 26 rfl (ok_pick_tt · (.tmp rfl) hc3 (.bool _)) ?_
    try dsimp only [w0, w1, w2, w3]
    exact J0_snd  h
  · refine qG 23 24 rfl (bfalse hc3) (ok_move · (.tmp rfl)) ?_
    try dsimp only [w0, w1, w2, w3]
    refine qG 23 25 rfl (bfalse hc3) (ok_not · (.tmp rfl)) ?_
    refine qS 26 rfl (ok_pick_ff · (.tmp rfl) (bfalse hc3) (.tmp rfl)) ?_
    try dsimp only [w0, w1, w2, w3]
    exact J0_snd  h
end
end glob_Cut
namespace rollcalllaw04_star
theorem at_ : FnAt Tryd.prog 24 Tryd.f24 := ⟨Tryd.func24, by kernel_rfl⟩
noncomputable def d0 := (Tryd.f24.body).getD .skip
noncomputable def r1 := kR (kA d0)
noncomputable def r4 := kR (kA (kA (kB d0)))
noncomputable def d5 := kB (kA (kB d0))
noncomputable def r9 := kR (kA (kA (kA (kA d5))))
noncomputable def d15 := kA (kA (kB (kA (kA d5))))
noncomputable def r16 := kR (kA d15)
noncomputable def r19 := kR (kA (kA (kB d15)))
noncomputable def r22 := kR (kB (kB (kA (kA d5))))
noncomputable def r24 := kR (kA (kB (kB d0)))
noncomputable def c23 : Code := .seq (.region 6 r24 false) .ret
noncomputable def c7 : Code := .seq (.seq (.region 2 r9 false) (.cond (.tmp 7) .skip (.exit 0))) (.seq (.block 1 (.seq (.region 4 r16 false) (.cond (.tmp 13) (.seq (.region 5 r19 false) .ret) .skip))) (.region 3 r22 false))
noncomputable def c0 : Code := .seq (.region 0 r1 false) (.seq (.seq (.region 1 r4 false) (.block 0 (.loop c7))) c23)
theorem body : Tryd.f24.body = some c0 := by kernel_rfl
section
variable {base : Nat} {W0 : World} {β0 : Bt}
def L0 (k : Nat) : Nat → (List UInt8) → Int → Option (Bool)
  | 0, _, _ => none
  | n + 1, y0, y3 =>
    (if y3 < (List.length y0 : Int) then
    (Option.bind (sat y0 y3) fun p2 =>
    (if (UInt8.toNat p2 : Int) = 42 then
    some true else
    (L0 k n) y0 (w64 (y3 + 1)))) else
    some false)
theorem L0_snd {k : Nat}  : ∀ {n : Nat} ⦃y0 : (List UInt8)⦄ ⦃y3 : Int⦄ ⦃S : HS⦄ ⦃p : Bool⦄ ⦃g1 g2 g4 g5 g6 g7 g8 g9 g10 g11 g12 g13 : HV⦄, L0 k n y0 y3 = some p → HRun Tryd.prog base W0 β0 24 none [.inLoop c7, .inBlock 0, .code c23] ⟨[(.str y0), g1, g2, (.int .i64 y3), g4, g5, g6, g7, g8, g9, g10, g11, g12, g13], []⟩ S (fun v S1 => v = (.bool p) ∧ S1 = S) := by
  intro n
  induction n with
  | zero => intro _ _ _ _ _ _ _ _ _ _ _ _ _ _ _ _ h; cases h
  | succ n ih =>
    intro y0 y3 S p g1 g2 g4 g5 g6 g7 g8 g9 g10 g11 g12 g13 h
    simp only [L0] at h
    refine hr_inLoop ?_
    refine q_seq rfl ?_
    refine q_seq rfl ?_
    refine q_region rfl rfl ?_
    refine qS 4 rfl (ok_move · (.tmp rfl)) ?_
    refine qS 5 rfl (ok_move · (.tmp rfl)) ?_
    refine qS 6 rfl (ok_len_str · rfl tu9 (.tmp rfl)) ?_
    refine qS 7 rfl (ok_ibin · (.tmp rfl) (.tmp rfl) rfl) ?_
    refine hr_region_end ?_
    try dsimp only [w0, w1, w2, w3]
    rcases ifc h with ⟨hc1, h⟩ | ⟨hc1, h⟩
    · refine q_cond_t rfl (.tmp rfl) (decide_eq_true hc1) ?_
      refine q_skipc rfl ?_
      refine q_seq rfl ?_
      refine q_block rfl ?_
      refine q_seq rfl ?_
      refine q_region rfl rfl ?_
      refine qS 10 rfl (ok_move · (.tmp rfl)) ?_
      refine qS 11 rfl (ok_move · (.tmp rfl)) ?_
      obtain ⟨p2, hp2, h⟩ := bindo h
      refine qS 12 rfl (ok_index_s · tu9 (.tmp rfl) (.tmp rfl) hp2) ?_
      refine qS 13 rfl (ok_ibin · (.tmp rfl) (.int _ _) rfl) ?_
      refine hr_region_end ?_
      try dsimp only [w0, w1, w2, w3]
      rcases ifc h with ⟨hc3, h⟩ | ⟨hc3, h⟩
      · refine q_cond_t rfl (.tmp rfl) (decide_eq_true hc3) ?_
        refine q_seq rfl ?_
        refine q_region rfl rfl ?_
        refine qS 2 rfl (ok_assign · (.bool _)) ?_
        refine hr_region_end ?_
        try dsimp only [w0, w1, w2, w3]
        cases h
        exact q_ret rfl at_.at_ rfl (res1 rfl rfl) ⟨rfl, rfl⟩
      · refine q_cond_f rfl (.tmp rfl) (decide_eq_false hc3) ?_
        refine q_skipc rfl ?_
        refine hr_inBlock ?_
        refine q_region rfl rfl ?_
        refine qS 8 rfl (ok_move · (.tmp rfl)) ?_
        refine qS 9 rfl (ok_ibin · (.tmp rfl) (.int _ _) rfl) ?_
        refine qS 3 rfl (ok_assign · (.tmp rfl)) ?_
        refine hr_region_end ?_
        try dsimp only [w0, w1, w2, w3]
        try dsimp only [w0, w1, w2, w3]
        exact ih h
    · refine q_cond_f rfl (.tmp rfl) (decide_eq_false hc1) ?_
      refine q_exit rfl rfl ?_
      refine q_seq rfl ?_
      refine q_region rfl rfl ?_
      refine qS 2 rfl (ok_assign · (.bool _)) ?_
      refine hr_region_end ?_
      try dsimp only [w0, w1, w2, w3]
      cases h
      exact q_ret rfl at_.at_ rfl (res1 rfl rfl) ⟨rfl, rfl⟩
def f (k : Nat) (x0 : (List UInt8)) : Option (Bool) :=
  L0 k k x0 0
theorem snd {k : Nat} {x0 : (List UInt8)} {S : HS}  {p : Bool} (h : f k x0 = some p) : HCall Tryd.prog base W0 β0 24 [(.str x0)] S (fun v S1 => v = (.bool p) ∧ S1 = S) := by
  unfold f at h
  refine HCall.of_run at_.at_ body ?_
  show HRun Tryd.prog base W0 β0 24 none [.code c0] ⟨[(.str x0), τ, τ, τ, τ, τ, τ, τ, τ, τ, τ, τ, τ, τ], []⟩ S _
  refine q_seq rfl ?_
  refine q_region rfl rfl ?_
  refine qS 2 rfl (ok_assign · (.bool _)) ?_
  refine hr_region_end ?_
  try dsimp only [w0, w1, w2, w3]
  refine q_seq rfl ?_
  refine q_seq rfl ?_
  refine q_region rfl rfl ?_
  refine qS 3 rfl (ok_assign · (.int _ _)) ?_
  refine hr_region_end ?_
  try dsimp only [w0, w1, w2, w3]
  refine q_block rfl ?_
  refine q_loop rfl ?_
  try dsimp only [w0, w1, w2, w3]
  exact L0_snd  h
end
end rollcalllaw04_star
end Go.Proofs.YtgplnlknejbglaaDoor.X
namespace Go.Proofs.YtgplnlknejbglaaDoor.X
open Go.Proofs.YtgplnlknejbglaaDoor.HL
set_option linter.unusedVariables false
set_option linter.unusedSimpArgs false
set_option maxRecDepth 20000
set_option maxHeartbeats 4000000
namespace rollcalllaw04_GlobFolds
theorem at_ : FnAt Tryd.prog 8 Tryd.f8 := ⟨Tryd.func8, by kernel_rfl⟩
noncomputable def d0 := (Tryd.f8.body).getD .skip
noncomputable def r1 := kR (kA d0)
noncomputable def r4 := kR (kA (kA (kB d0)))
noncomputable def r7 := kR (kA (kA (kB (kA (kB d0)))))
noncomputable def r12 := kR (kA (kA (kB (kB d0))))
noncomputable def r15 := kR (kA (kA (kB (kA (kB (kB d0))))))
noncomputable def d18 := kB (kB (kB d0))
noncomputable def r19 := kR (kA d18)
noncomputable def r22 := kR (kA (kA (kB d18)))
noncomputable def r25 := kR (kA (kA (kB (kA (kB d18)))))
noncomputable def r29 := kR (kA (kB (kB d18)))
noncomputable def r32 := kR (kA (kA (kB (kB (kB d18)))))
noncomputable def r35 := kR (kA (kA (kB (kA (kB (kB (kB d18)))))))
noncomputable def r39 := kR (kA (kB (kB (kB (kB d18)))))
noncomputable def c40 : Code := .ret
noncomputable def c38 : Code := .seq (.region 11 r39 false) c40
noncomputable def c33 : Code := .cond (.tmp 86) (.seq (.region 10 r35 false) .ret) .skip
noncomputable def c18 : Code := .seq (.region 5 r19 false) (.seq (.seq (.region 6 r22 false) (.cond (.tmp 61) (.seq (.region 7 r25 false) .ret) .skip)) (.seq (.region 8 r29 false) (.seq (.seq (.region 9 r32 false) c33) c38)))
noncomputable def c13 : Code := .cond (.tmp 45) (.seq (.region 4 r15 false) .ret) .skip
noncomputable def c0 : Code := .seq (.region 0 r1 false) (.seq (.seq (.region 1 r4 false) (.cond (.tmp 15) (.seq (.region 2 r7 false) .ret) .skip)) (.seq (.seq (.region 3 r12 false) c13) c18))
theorem body : Tryd.f8.body = some c0 := by kernel_rfl
section
variable {base : Nat} {W0 : World} {β0 : Bt}
def J9 (k : Nat) (y115 : Bool) (S : HS) : Option ((Bool) × HS) :=
  some (y115, S)
theorem J9_snd {k : Nat}  {y115 : Bool} {S : HS} {p : (Bool) × HS} {g0 g1 g2 g3 g4 g5 g6 g7 g8 g9 g10 g11 g12 g13 g14 g15 g16 g17 g18 g19 g20 g21 g22 g23 g24 g25 g26 g27 g28 g29 g30 g31 g32 g33 g34 g35 g36 g37 g38 g39 g40 g41 g42 g43 g44 g45 g46 g47 g48 g49 g50 g51 g52 g53 g54 g55 g56 g57 g58 g59 g60 g61 g62 g63 g64 g65 g66 g67 g68 g69 g70 g71 g72 g73 g74 g75 g76 g77 g78 g79 g80 g81 g82 g83 g84 g85 g86 g87 g88 g89 g90 g91 g92 g93 g94 g95 g96 g97 g98 g99 g100 g101 g102 g103 g104 g105 g106 g107 g108 g109 g110 g111 g112 g113 g114 : HV} (h : J9 k y115 S = some p) : HRun Tryd.prog base W0 β0 8 none [.inRegion r39 [29], .code c40] ⟨[g0, g1, g2, g3, g4, g5, g6, g7, g8, g9, g10, g11, g12, g13, g14, g15, g16, g17, g18, g19, g20, g21, g22, g23, g24, g25, g26, g27, g28, g29, g30, g31, g32, g33, g34, g35, g36, g37, g38, g39, g40, g41, g42, g43, g44, g45, g46, g47, g48, g49, g50, g51, g52, g53, g54, g55, g56, g57, g58, g59, g60, g61, g62, g63, g64, g65, g66, g67, g68, g69, g70, g71, g72, g73, g74, g75, g76, g77, g78, g79, g80, g81, g82, g83, g84, g85, g86, g87, g88, g89, g90, g91, g92, g93, g94, g95, g96, g97, g98, g99, g100, g101, g102, g103, g104, g105, g106, g107, g108, g109, g110, g111, g112, g113, g114, (.bool y115)], []⟩ S (fun v S1 => v = (.bool p.1) ∧ S1 = p.2) := by
  unfold J9 at h
  refine qS 8 rfl (ok_assign · (.tmp rfl)) ?_
  refine hr_region_end ?_
  try dsimp only [w0, w1, w2, w3]
  cases h
  exact q_ret rfl at_.at_ rfl (res1 rfl rfl) ⟨rfl, rfl⟩
def J11 (k : Nat) (y97 : Bool) (y100 : Bool) (y113 : Bool) (S : HS) : Option ((Bool) × HS) :=
  (if y97 = true then
  J9 k true S else
  J9 k (y100 == y113) S)
theorem J11_snd {k : Nat}  {y97 : Bool} {y100 : Bool} {y113 : Bool} {S : HS} {p : (Bool) × HS} {g0 g1 g2 g3 g4 g5 g6 g7 g8 g9 g10 g11 g12 g13 g14 g15 g16 g17 g18 g19 g20 g21 g22 g23 g24 g25 g26 g27 g28 g29 g30 g31 g32 g33 g34 g35 g36 g37 g38 g39 g40 g41 g42 g43 g44 g45 g46 g47 g48 g49 g50 g51 g52 g53 g54 g55 g56 g57 g58 g59 g60 g61 g62 g63 g64 g65 g66 g67 g68 g69 g70 g71 g72 g73 g74 g75 g76 g77 g78 g79 g80 g81 g82 g83 g84 g85 g86 g87 g88 g89 g90 g91 g92 g93 g94 g95 g96 g98 g99 g101 g102 g103 g104 g105 g106 g107 g108 g109 g110 g111 g112 g114 g115 : HV} (h : J11 k y97 y100 y113 S = some p) : HRun Tryd.prog base W0 β0 8 none [.inRegion r39 [27, 28, 29], .code c40] ⟨[g0, g1, g2, g3, g4, g5, g6, g7, g8, g9, g10, g11, g12, g13, g14, g15, g16, g17, g18, g19, g20, g21, g22, g23, g24, g25, g26, g27, g28, g29, g30, g31, g32, g33, g34, g35, g36, g37, g38, g39, g40, g41, g42, g43, g44, g45, g46, g47, g48, g49, g50, g51, g52, g53, g54, g55, g56, g57, g58, g59, g60, g61, g62, g63, g64, g65, g66, g67, g68, g69, g70, g71, g72, g73, g74, g75, g76, g77, g78, g79, g80, g81, g82, g83, g84, g85, g86, g87, g88, g89, g90, g91, g92, g93, g94, g95, g96, (.bool y97), g98, g99, (.bool y100), g101, g102, g103, g104, g105, g106, g107, g108, g109, g110, g111, g112, (.bool y113), g114, g115], []⟩ S (fun v S1 => v = (.bool p.1) ∧ S1 = p.2) := by
  unfold J11 at h
  rcases ifc h with ⟨hc33, h⟩ | ⟨hc33, h⟩
  · refine q_skip (dst := some 114) (t := 97) rfl rfl rfl hc33 ?_
    try dsimp only [w0, w1, w2, w3]
    refine qS 115 rfl (ok_pick_tt · (.tmp rfl) hc33 (.bool _)) ?_
    try dsimp only [w0, w1, w2, w3]
    exact J9_snd  h
  · refine qG 97 114 rfl (bfalse hc33) (ok_beq · tu4 (.inl ⟨rfl, rfl⟩) (.tmp rfl) (.tmp rfl)) ?_
    try dsimp only [w0, w1, w2, w3]
    refine qS 115 rfl (ok_pick_ff · (.tmp rfl) (bfalse hc33) (.tmp rfl)) ?_
    try dsimp only [w0, w1, w2, w3]
    exact J9_snd  h
def J10 (k : Nat) (y3 : (List UInt8)) (y12 : (List UInt8)) (y97 : Bool) (y100 : Bool) (y108 : Bool) (S : HS) : Option ((Bool) × HS) :=
  (if y97 = true then
  J9 k true S else
  (if y108 = true then
  (Option.bind (glob_Match.f k y12 y3 S) fun p32 =>
  J11 k y97 y100 p32.1 p32.2) else
  J11 k y97 y100 false S))
theorem J10_snd {k : Nat}  {y3 : (List UInt8)} {y12 : (List UInt8)} {y97 : Bool} {y100 : Bool} {y108 : Bool} {S : HS} {p : (Bool) × HS} {g0 g1 g2 g4 g5 g6 g7 g8 g9 g10 g11 g13 g14 g15 g16 g17 g18 g19 g20 g21 g22 g23 g24 g25 g26 g27 g28 g29 g30 g31 g32 g33 g34 g35 g36 g37 g38 g39 g40 g41 g42 g43 g44 g45 g46 g47 g48 g49 g50 g51 g52 g53 g54 g55 g56 g57 g58 g59 g60 g61 g62 g63 g64 g65 g66 g67 g68 g69 g70 g71 g72 g73 g74 g75 g76 g77 g78 g79 g80 g81 g82 g83 g84 g85 g86 g87 g88 g89 g90 g91 g92 g93 g94 g95 g96 g98 g99 g101 g102 g103 g104 g105 g106 g107 g109 g110 g111 g112 g113 g114 g115 : HV} (h : J10 k y3 y12 y97 y100 y108 S = some p) : HRun Tryd.prog base W0 β0 8 none [.inRegion r39 [22, 23, 24, 25, 26, 27, 28, 29], .code c40] ⟨[g0, g1, g2, (.str y3), g4, g5, g6, g7, g8, g9, g10, g11, (.str y12), g13, g14, g15, g16, g17, g18, g19, g20, g21, g22, g23, g24, g25, g26, g27, g28, g29, g30, g31, g32, g33, g34, g35, g36, g37, g38, g39, g40, g41, g42, g43, g44, g45, g46, g47, g48, g49, g50, g51, g52, g53, g54, g55, g56, g57, g58, g59, g60, g61, g62, g63, g64, g65, g66, g67, g68, g69, g70, g71, g72, g73, g74, g75, g76, g77, g78, g79, g80, g81, g82, g83, g84, g85, g86, g87, g88, g89, g90, g91, g92, g93, g94, g95, g96, (.bool y97), g98, g99, (.bool y100), g101, g102, g103, g104, g105, g106, g107, (.bool y108), g109, g110, g111, g112, g113, g114, g115], []⟩ S (fun v S1 => v = (.bool p.1) ∧ S1 = p.2) := by
  unfold J10 at h
  rcases ifc h with ⟨hc30, h⟩ | ⟨hc30, h⟩
  · refine q_skip (dst := some 109) (t := 97) rfl rfl rfl hc30 ?_
    refine q_skip_u (dst := some 110) (t := 109) rfl rfl rfl ?_
    try dsimp only [w0, w1, w2, w3]
    refine q_skip_u (dst := some 111) (t := 109) rfl rfl rfl ?_
    refine q_skip_u (dst := some 112) (t := 109) rfl rfl rfl ?_
    refine q_skip (dst := some 113) (t := 97) rfl rfl rfl hc30 ?_
    refine q_skip (dst := some 114) (t := 97) rfl rfl rfl hc30 ?_
    try dsimp only [w0, w1, w2, w3]
    refine qS 115 rfl (ok_pick_tt · (.tmp rfl) hc30 (.bool _)) ?_
    try dsimp only [w0, w1, w2, w3]
    exact J9_snd  h
  · refine qG 97 109 rfl (bfalse hc30) (ok_move · (.tmp rfl)) ?_
    rcases ifc h with ⟨hc31, h⟩ | ⟨hc31, h⟩
    · refine qG 109 110 rfl hc31 (ok_move · (.tmp rfl)) ?_
      try dsimp only [w0, w1, w2, w3]
      refine qG 109 111 rfl hc31 (ok_move · (.tmp rfl)) ?_
      obtain ⟨p32, hp32, h⟩ := bindo h
      refine q_call_g (t := 109) (dst := some 112) rfl rfl rfl hc31 (.func _) (.cons (.tmp rfl) (.cons (.tmp rfl) Evs.nil)) (HInv.static glob_Match.at_ glob_Match.body (glob_Match.snd  hp32)) ?_
      rintro _ _ ⟨rfl, rfl⟩
      refine qG 97 113 rfl (bfalse hc30) (ok_pick_tt · (.tmp rfl) hc31 (.tmp rfl)) ?_
      try dsimp only [w0, w1, w2, w3]
      exact J11_snd  h
    · refine q_skip (dst := some 110) (t := 109) rfl rfl rfl (bfalse hc31) ?_
      try dsimp only [w0, w1, w2, w3]
      refine q_skip (dst := some 111) (t := 109) rfl rfl rfl (bfalse hc31) ?_
      refine q_skip (dst := some 112) (t := 109) rfl rfl rfl (bfalse hc31) ?_
      refine qG 97 113 rfl (bfalse hc30) (ok_pick_ff · (.tmp rfl) (bfalse hc31) (.bool _)) ?_
      try dsimp only [w0, w1, w2, w3]
      exact J11_snd  h
def J8 (k : Nat) (y0 : (List UInt8)) (y1 : (List UInt8)) (y2 : (List UInt8)) (y3 : (List UInt8)) (y9 : (List UInt8)) (y10 : (List UInt8)) (y11 : (List UInt8)) (y12 : (List UInt8)) (y96 : Bool) (S : HS) : Option ((Bool) × HS) :=
  (if y96 = true then
  J9 k true S else
  (Option.bind (glob_Match.f k y0 y9 S) fun p26 =>
  (Option.bind (glob_Match.f k y10 y1 p26.2) fun p27 =>
  (if p27.1 = true then
  (Option.bind (glob_Match.f k y11 y2 p27.2) fun p29 =>
  J10 k y3 y12 y96 p26.1 p29.1 p29.2) else
  J10 k y3 y12 y96 p26.1 false p27.2))))
theorem J8_snd {k : Nat}  {y0 : (List UInt8)} {y1 : (List UInt8)} {y2 : (List UInt8)} {y3 : (List UInt8)} {y9 : (List UInt8)} {y10 : (List UInt8)} {y11 : (List UInt8)} {y12 : (List UInt8)} {y96 : Bool} {S : HS} {p : (Bool) × HS} {g4 g5 g6 g7 g8 g13 g14 g15 g16 g17 g18 g19 g20 g21 g22 g23 g24 g25 g26 g27 g28 g29 g30 g31 g32 g33 g34 g35 g36 g37 g38 g39 g40 g41 g42 g43 g44 g45 g46 g47 g48 g49 g50 g51 g52 g53 g54 g55 g56 g57 g58 g59 g60 g61 g62 g63 g64 g65 g66 g67 g68 g69 g70 g71 g72 g73 g74 g75 g76 g77 g78 g79 g80 g81 g82 g83 g84 g85 g86 g87 g88 g89 g90 g91 g92 g93 g94 g95 g97 g98 g99 g100 g101 g102 g103 g104 g105 g106 g107 g108 g109 g110 g111 g112 g113 g114 g115 : HV} (h : J8 k y0 y1 y2 y3 y9 y10 y11 y12 y96 S = some p) : HRun Tryd.prog base W0 β0 8 none [.inRegion r39 [10, 11, 12, 13, 14, 15, 16, 17, 18, 19, 20, 21, 22, 23, 24, 25, 26, 27, 28, 29], .code c40] ⟨[(.str y0), (.str y1), (.str y2), (.str y3), g4, g5, g6, g7, g8, (.str y9), (.str y10), (.str y11), (.str y12), g13, g14, g15, g16, g17, g18, g19, g20, g21, g22, g23, g24, g25, g26, g27, g28, g29, g30, g31, g32, g33, g34, g35, g36, g37, g38, g39, g40, g41, g42, g43, g44, g45, g46, g47, g48, g49, g50, g51, g52, g53, g54, g55, g56, g57, g58, g59, g60, g61, g62, g63, g64, g65, g66, g67, g68, g69, g70, g71, g72, g73, g74, g75, g76, g77, g78, g79, g80, g81, g82, g83, g84, g85, g86, g87, g88, g89, g90, g91, g92, g93, g94, g95, (.bool y96), g97, g98, g99, g100, g101, g102, g103, g104, g105, g106, g107, g108, g109, g110, g111, g112, g113, g114, g115], []⟩ S (fun v S1 => v = (.bool p.1) ∧ S1 = p.2) := by
  unfold J8 at h
  refine qS 97 rfl (ok_move · (.tmp rfl)) ?_
  rcases ifc h with ⟨hc25, h⟩ | ⟨hc25, h⟩
  · refine q_skip (dst := some 98) (t := 97) rfl rfl rfl hc25 ?_
    try dsimp only [w0, w1, w2, w3]
    refine q_skip (dst := some 99) (t := 97) rfl rfl rfl hc25 ?_
    refine q_skip (dst := some 100) (t := 97) rfl rfl rfl hc25 ?_
    refine q_skip (dst := some 101) (t := 97) rfl rfl rfl hc25 ?_
    refine q_skip (dst := some 102) (t := 97) rfl rfl rfl hc25 ?_
    try dsimp only [w0, w1, w2, w3]
    refine q_skip (dst := some 103) (t := 97) rfl rfl rfl hc25 ?_
    refine q_skip (dst := some 104) (t := 97) rfl rfl rfl hc25 ?_
    refine q_skip_u (dst := some 105) (t := 104) rfl rfl rfl ?_
    refine q_skip_u (dst := some 106) (t := 104) rfl rfl rfl ?_
    try dsimp only [w0, w1, w2, w3]
    refine q_skip_u (dst := some 107) (t := 104) rfl rfl rfl ?_
    refine q_skip (dst := some 108) (t := 97) rfl rfl rfl hc25 ?_
    refine q_skip (dst := some 109) (t := 97) rfl rfl rfl hc25 ?_
    refine q_skip_u (dst := some 110) (t := 109) rfl rfl rfl ?_
    try dsimp only [w0, w1, w2, w3]
    refine q_skip_u (dst := some 111) (t := 109) rfl rfl rfl ?_
    refine q_skip_u (dst := some 112) (t := 109) rfl rfl rfl ?_
    refine q_skip (dst := some 113) (t := 97) rfl rfl rfl hc25 ?_
    refine q_skip (dst := some 114) (t := 97) rfl rfl rfl hc25 ?_
    try dsimp only [w0, w1, w2, w3]
    refine qS 115 rfl (ok_pick_tt · (.tmp rfl) hc25 (.bool _)) ?_
    try dsimp only [w0, w1, w2, w3]
    exact J9_snd  h
  · refine qG 97 98 rfl (bfalse hc25) (ok_move · (.tmp rfl)) ?_
    try dsimp only [w0, w1, w2, w3]
    refine qG 97 99 rfl (bfalse hc25) (ok_move · (.tmp rfl)) ?_
    obtain ⟨p26, hp26, h⟩ := bindo h
    refine q_call_g (t := 97) (dst := some 100) rfl rfl rfl (bfalse hc25) (.func _) (.cons (.tmp rfl) (.cons (.tmp rfl) Evs.nil)) (HInv.static glob_Match.at_ glob_Match.body (glob_Match.snd  hp26)) ?_
    rintro _ _ ⟨rfl, rfl⟩
    refine qG 97 101 rfl (bfalse hc25) (ok_move · (.tmp rfl)) ?_
    refine qG 97 102 rfl (bfalse hc25) (ok_move · (.tmp rfl)) ?_
    try dsimp only [w0, w1, w2, w3]
    obtain ⟨p27, hp27, h⟩ := bindo h
    refine q_call_g (t := 97) (dst := some 103) rfl rfl rfl (bfalse hc25) (.func _) (.cons (.tmp rfl) (.cons (.tmp rfl) Evs.nil)) (HInv.static glob_Match.at_ glob_Match.body (glob_Match.snd  hp27)) ?_
    rintro _ _ ⟨rfl, rfl⟩
    refine qG 97 104 rfl (bfalse hc25) (ok_move · (.tmp rfl)) ?_
    rcases ifc h with ⟨hc28, h⟩ | ⟨hc28, h⟩
    · refine qG 104 105 rfl hc28 (ok_move · (.tmp rfl)) ?_
      refine qG 104 106 rfl hc28 (ok_move · (.tmp rfl)) ?_
      try dsimp only [w0, w1, w2, w3]
      obtain ⟨p29, hp29, h⟩ := bindo h
      refine q_call_g (t := 104) (dst := some 107) rfl rfl rfl hc28 (.func _) (.cons (.tmp rfl) (.cons (.tmp rfl) Evs.nil)) (HInv.static glob_Match.at_ glob_Match.body (glob_Match.snd  hp29)) ?_
      rintro _ _ ⟨rfl, rfl⟩
      refine qG 97 108 rfl (bfalse hc25) (ok_pick_tt · (.tmp rfl) hc28 (.tmp rfl)) ?_
      try dsimp only [w0, w1, w2, w3]
      exact J10_snd  h
    · refine q_skip (dst := some 105) (t := 104) rfl rfl rfl (bfalse hc28) ?_
      refine q_skip (dst := some 106) (t := 104) rfl rfl rfl (bfalse hc28) ?_
      try dsimp only [w0, w1, w2, w3]
      refine q_skip (dst := some 107) (t := 104) rfl rfl rfl (bfalse hc28) ?_
      refine qG 97 108 rfl (bfalse hc25) (ok_pick_ff · (.tmp rfl) (bfalse hc28) (.bool _)) ?_
      try dsimp only [w0, w1, w2, w3]
      exact J10_snd  h
def J7 (k : Nat) (y0 : (List UInt8)) (y1 : (List UInt8)) (y2 : (List UInt8)) (y3 : (List UInt8)) (y9 : (List UInt8)) (y10 : (List UInt8)) (y11 : (List UInt8)) (y12 : (List UInt8)) (y92 : Bool) (S : HS) : Option ((Bool) × HS) :=
  (if y92 = true then
  J8 k y0 y1 y2 y3 y9 y10 y11 y12 true S else
  (Option.bind (rollcalllaw04_marked.f k y12) fun p34 =>
  J8 k y0 y1 y2 y3 y9 y10 y11 y12 p34 S))
theorem J7_snd {k : Nat}  {y0 : (List UInt8)} {y1 : (List UInt8)} {y2 : (List UInt8)} {y3 : (List UInt8)} {y9 : (List UInt8)} {y10 : (List UInt8)} {y11 : (List UInt8)} {y12 : (List UInt8)} {y92 : Bool} {S : HS} {p : (Bool) × HS} {g4 g5 g6 g7 g8 g13 g14 g15 g16 g17 g18 g19 g20 g21 g22 g23 g24 g25 g26 g27 g28 g29 g30 g31 g32 g33 g34 g35 g36 g37 g38 g39 g40 g41 g42 g43 g44 g45 g46 g47 g48 g49 g50 g51 g52 g53 g54 g55 g56 g57 g58 g59 g60 g61 g62 g63 g64 g65 g66 g67 g68 g69 g70 g71 g72 g73 g74 g75 g76 g77 g78 g79 g80 g81 g82 g83 g84 g85 g86 g87 g88 g89 g90 g91 g93 g94 g95 g96 g97 g98 g99 g100 g101 g102 g103 g104 g105 g106 g107 g108 g109 g110 g111 g112 g113 g114 g115 : HV} (h : J7 k y0 y1 y2 y3 y9 y10 y11 y12 y92 S = some p) : HRun Tryd.prog base W0 β0 8 none [.inRegion r39 [6, 7, 8, 9, 10, 11, 12, 13, 14, 15, 16, 17, 18, 19, 20, 21, 22, 23, 24, 25, 26, 27, 28, 29], .code c40] ⟨[(.str y0), (.str y1), (.str y2), (.str y3), g4, g5, g6, g7, g8, (.str y9), (.str y10), (.str y11), (.str y12), g13, g14, g15, g16, g17, g18, g19, g20, g21, g22, g23, g24, g25, g26, g27, g28, g29, g30, g31, g32, g33, g34, g35, g36, g37, g38, g39, g40, g41, g42, g43, g44, g45, g46, g47, g48, g49, g50, g51, g52, g53, g54, g55, g56, g57, g58, g59, g60, g61, g62, g63, g64, g65, g66, g67, g68, g69, g70, g71, g72, g73, g74, g75, g76, g77, g78, g79, g80, g81, g82, g83, g84, g85, g86, g87, g88, g89, g90, g91, (.bool y92), g93, g94, g95, g96, g97, g98, g99, g100, g101, g102, g103, g104, g105, g106, g107, g108, g109, g110, g111, g112, g113, g114, g115], []⟩ S (fun v S1 => v = (.bool p.1) ∧ S1 = p.2) := by
  unfold J7 at h
  refine qS 93 rfl (ok_move · (.tmp rfl)) ?_
  rcases ifc h with ⟨hc24, h⟩ | ⟨hc24, h⟩
  · refine q_skip (dst := some 94) (t := 93) rfl rfl rfl hc24 ?_
    try dsimp only [w0, w1, w2, w3]
    refine q_skip (dst := some 95) (t := 93) rfl rfl rfl hc24 ?_
    refine qS 96 rfl (ok_pick_tt · (.tmp rfl) hc24 (.bool _)) ?_
    try dsimp only [w0, w1, w2, w3]
    exact J8_snd  h
  · refine qG 93 94 rfl (bfalse hc24) (ok_move · (.tmp rfl)) ?_
    try dsimp only [w0, w1, w2, w3]
    obtain ⟨p34, hp34, h⟩ := bindo h
    refine q_call_g (t := 93) (dst := some 95) rfl rfl rfl (bfalse hc24) (.func _) (.cons (.tmp rfl) Evs.nil) (HInv.static rollcalllaw04_marked.at_ rollcalllaw04_marked.body (rollcalllaw04_marked.snd  hp34)) ?_
    rintro _ _ ⟨rfl, rfl⟩
    refine qS 96 rfl (ok_pick_ff · (.tmp rfl) (bfalse hc24) (.tmp rfl)) ?_
    try dsimp only [w0, w1, w2, w3]
    exact J8_snd  h
def J6 (k : Nat) (y0 : (List UInt8)) (y1 : (List UInt8)) (y2 : (List UInt8)) (y3 : (List UInt8)) (y9 : (List UInt8)) (y10 : (List UInt8)) (y11 : (List UInt8)) (y12 : (List UInt8)) (y86 : Bool) (S : HS) : Option ((Bool) × HS) :=
  (if y86 = true then
  some (true, S) else
  (Option.bind (rollcalllaw04_marked.f k y10) fun p22 =>
  (if p22 = true then
  J7 k y0 y1 y2 y3 y9 y10 y11 y12 true S else
  (Option.bind (rollcalllaw04_marked.f k y11) fun p35 =>
  J7 k y0 y1 y2 y3 y9 y10 y11 y12 p35 S))))
theorem J6_snd {k : Nat}  {y0 : (List UInt8)} {y1 : (List UInt8)} {y2 : (List UInt8)} {y3 : (List UInt8)} {y9 : (List UInt8)} {y10 : (List UInt8)} {y11 : (List UInt8)} {y12 : (List UInt8)} {y86 : Bool} {S : HS} {p : (Bool) × HS} {g4 g5 g6 g7 g8 g13 g14 g15 g16 g17 g18 g19 g20 g21 g22 g23 g24 g25 g26 g27 g28 g29 g30 g31 g32 g33 g34 g35 g36 g37 g38 g39 g40 g41 g42 g43 g44 g45 g46 g47 g48 g49 g50 g51 g52 g53 g54 g55 g56 g57 g58 g59 g60 g61 g62 g63 g64 g65 g66 g67 g68 g69 g70 g71 g72 g73 g74 g75 g76 g77 g78 g79 g80 g81 g82 g83 g84 g85 g87 g88 g89 g90 g91 g92 g93 g94 g95 g96 g97 g98 g99 g100 g101 g102 g103 g104 g105 g106 g107 g108 g109 g110 g111 g112 g113 g114 g115 : HV} (h : J6 k y0 y1 y2 y3 y9 y10 y11 y12 y86 S = some p) : HRun Tryd.prog base W0 β0 8 none [.code c33, .code c38] ⟨[(.str y0), (.str y1), (.str y2), (.str y3), g4, g5, g6, g7, g8, (.str y9), (.str y10), (.str y11), (.str y12), g13, g14, g15, g16, g17, g18, g19, g20, g21, g22, g23, g24, g25, g26, g27, g28, g29, g30, g31, g32, g33, g34, g35, g36, g37, g38, g39, g40, g41, g42, g43, g44, g45, g46, g47, g48, g49, g50, g51, g52, g53, g54, g55, g56, g57, g58, g59, g60, g61, g62, g63, g64, g65, g66, g67, g68, g69, g70, g71, g72, g73, g74, g75, g76, g77, g78, g79, g80, g81, g82, g83, g84, g85, (.bool y86), g87, g88, g89, g90, g91, g92, g93, g94, g95, g96, g97, g98, g99, g100, g101, g102, g103, g104, g105, g106, g107, g108, g109, g110, g111, g112, g113, g114, g115], []⟩ S (fun v S1 => v = (.bool p.1) ∧ S1 = p.2) := by
  unfold J6 at h
  rcases ifc h with ⟨hc21, h⟩ | ⟨hc21, h⟩
  · refine q_cond_t rfl (.tmp rfl) hc21 ?_
    refine q_seq rfl ?_
    refine q_region rfl rfl ?_
    refine qS 8 rfl (ok_assign · (.bool _)) ?_
    refine hr_region_end ?_
    try dsimp only [w0, w1, w2, w3]
    cases h
    exact q_ret rfl at_.at_ rfl (res1 rfl rfl) ⟨rfl, rfl⟩
  · refine q_cond_f rfl (.tmp rfl) (bfalse hc21) ?_
    refine q_skipc rfl ?_
    refine q_seq rfl ?_
    refine q_region rfl rfl ?_
    refine qS 87 rfl (ok_move · (.tmp rfl)) ?_
    obtain ⟨p22, hp22, h⟩ := bindo h
    refine q_call (dst := some 88) rfl (.func _) (.cons (.tmp rfl) Evs.nil) (HInv.static rollcalllaw04_marked.at_ rollcalllaw04_marked.body (rollcalllaw04_marked.snd  hp22)) ?_
    rintro _ _ ⟨rfl, rfl⟩
    refine qS 89 rfl (ok_move · (.tmp rfl)) ?_
    rcases ifc h with ⟨hc23, h⟩ | ⟨hc23, h⟩
    · refine q_skip (dst := some 90) (t := 89) rfl rfl rfl hc23 ?_
      try dsimp only [w0, w1, w2, w3]
      refine q_skip (dst := some 91) (t := 89) rfl rfl rfl hc23 ?_
      refine qS 92 rfl (ok_pick_tt · (.tmp rfl) hc23 (.bool _)) ?_
      try dsimp only [w0, w1, w2, w3]
      exact J7_snd  h
    · refine qG 89 90 rfl (bfalse hc23) (ok_move · (.tmp rfl)) ?_
      try dsimp only [w0, w1, w2, w3]
      obtain ⟨p35, hp35, h⟩ := bindo h
      refine q_call_g (t := 89) (dst := some 91) rfl rfl rfl (bfalse hc23) (.func _) (.cons (.tmp rfl) Evs.nil) (HInv.static rollcalllaw04_marked.at_ rollcalllaw04_marked.body (rollcalllaw04_marked.snd  hp35)) ?_
      rintro _ _ ⟨rfl, rfl⟩
      refine qS 92 rfl (ok_pick_ff · (.tmp rfl) (bfalse hc23) (.tmp rfl)) ?_
      try dsimp only [w0, w1, w2, w3]
      exact J7_snd  h
def J14 (k : Nat) (y0 : (List UInt8)) (y1 : (List UInt8)) (y2 : (List UInt8)) (y3 : (List UInt8)) (y9 : (List UInt8)) (y10 : (List UInt8)) (y11 : (List UInt8)) (y12 : (List UInt8)) (y71 : Bool) (y85 : Bool) (S : HS) : Option ((Bool) × HS) :=
  (if y71 = true then
  J6 k y0 y1 y2 y3 y9 y10 y11 y12 true S else
  J6 k y0 y1 y2 y3 y9 y10 y11 y12 y85 S)
theorem J14_snd {k : Nat}  {y0 : (List UInt8)} {y1 : (List UInt8)} {y2 : (List UInt8)} {y3 : (List UInt8)} {y9 : (List UInt8)} {y10 : (List UInt8)} {y11 : (List UInt8)} {y12 : (List UInt8)} {y71 : Bool} {y85 : Bool} {S : HS} {p : (Bool) × HS} {g4 g5 g6 g7 g8 g13 g14 g15 g16 g17 g18 g19 g20 g21 g22 g23 g24 g25 g26 g27 g28 g29 g30 g31 g32 g33 g34 g35 g36 g37 g38 g39 g40 g41 g42 g43 g44 g45 g46 g47 g48 g49 g50 g51 g52 g53 g54 g55 g56 g57 g58 g59 g60 g61 g62 g63 g64 g65 g66 g67 g68 g69 g70 g72 g73 g74 g75 g76 g77 g78 g79 g80 g81 g82 g83 g84 g86 g87 g88 g89 g90 g91 g92 g93 g94 g95 g96 g97 g98 g99 g100 g101 g102 g103 g104 g105 g106 g107 g108 g109 g110 g111 g112 g113 g114 g115 : HV} (h : J14 k y0 y1 y2 y3 y9 y10 y11 y12 y71 y85 S = some p) : HRun Tryd.prog base W0 β0 8 none [.inRegion r32 [17], .code c33, .code c38] ⟨[(.str y0), (.str y1), (.str y2), (.str y3), g4, g5, g6, g7, g8, (.str y9), (.str y10), (.str y11), (.str y12), g13, g14, g15, g16, g17, g18, g19, g20, g21, g22, g23, g24, g25, g26, g27, g28, g29, g30, g31, g32, g33, g34, g35, g36, g37, g38, g39, g40, g41, g42, g43, g44, g45, g46, g47, g48, g49, g50, g51, g52, g53, g54, g55, g56, g57, g58, g59, g60, g61, g62, g63, g64, g65, g66, g67, g68, g69, g70, (.bool y71), g72, g73, g74, g75, g76, g77, g78, g79, g80, g81, g82, g83, g84, (.bool y85), g86, g87, g88, g89, g90, g91, g92, g93, g94, g95, g96, g97, g98, g99, g100, g101, g102, g103, g104, g105, g106, g107, g108, g109, g110, g111, g112, g113, g114, g115], []⟩ S (fun v S1 => v = (.bool p.1) ∧ S1 = p.2) := by
  unfold J14 at h
  rcases ifc h with ⟨hc44, h⟩ | ⟨hc44, h⟩
  · refine qS 86 rfl (ok_pick_tt · (.tmp rfl) hc44 (.bool _)) ?_
    refine hr_region_end ?_
    try dsimp only [w0, w1, w2, w3]
    try dsimp only [w0, w1, w2, w3]
    exact J6_snd  h
  · refine qS 86 rfl (ok_pick_ff · (.tmp rfl) (bfalse hc44) (.tmp rfl)) ?_
    refine hr_region_end ?_
    try dsimp only [w0, w1, w2, w3]
    try dsimp only [w0, w1, w2, w3]
    exact J6_snd  h
def J13 (k : Nat) (y0 : (List UInt8)) (y1 : (List UInt8)) (y2 : (List UInt8)) (y3 : (List UInt8)) (y9 : (List UInt8)) (y10 : (List UInt8)) (y11 : (List UInt8)) (y12 : (List UInt8)) (y71 : Bool) (y74 : Bool) (y84 : Bool) (S : HS) : Option ((Bool) × HS) :=
  (if y71 = true then
  J6 k y0 y1 y2 y3 y9 y10 y11 y12 true S else
  (if y74 = true then
  J14 k y0 y1 y2 y3 y9 y10 y11 y12 y71 y84 S else
  J14 k y0 y1 y2 y3 y9 y10 y11 y12 y71 false S))
theorem J13_snd {k : Nat}  {y0 : (List UInt8)} {y1 : (List UInt8)} {y2 : (List UInt8)} {y3 : (List UInt8)} {y9 : (List UInt8)} {y10 : (List UInt8)} {y11 : (List UInt8)} {y12 : (List UInt8)} {y71 : Bool} {y74 : Bool} {y84 : Bool} {S : HS} {p : (Bool) × HS} {g4 g5 g6 g7 g8 g13 g14 g15 g16 g17 g18 g19 g20 g21 g22 g23 g24 g25 g26 g27 g28 g29 g30 g31 g32 g33 g34 g35 g36 g37 g38 g39 g40 g41 g42 g43 g44 g45 g46 g47 g48 g49 g50 g51 g52 g53 g54 g55 g56 g57 g58 g59 g60 g61 g62 g63 g64 g65 g66 g67 g68 g69 g70 g72 g73 g75 g76 g77 g78 g79 g80 g81 g82 g83 g85 g86 g87 g88 g89 g90 g91 g92 g93 g94 g95 g96 g97 g98 g99 g100 g101 g102 g103 g104 g105 g106 g107 g108 g109 g110 g111 g112 g113 g114 g115 : HV} (h : J13 k y0 y1 y2 y3 y9 y10 y11 y12 y71 y74 y84 S = some p) : HRun Tryd.prog base W0 β0 8 none [.inRegion r32 [16, 17], .code c33, .code c38] ⟨[(.str y0), (.str y1), (.str y2), (.str y3), g4, g5, g6, g7, g8, (.str y9), (.str y10), (.str y11), (.str y12), g13, g14, g15, g16, g17, g18, g19, g20, g21, g22, g23, g24, g25, g26, g27, g28, g29, g30, g31, g32, g33, g34, g35, g36, g37, g38, g39, g40, g41, g42, g43, g44, g45, g46, g47, g48, g49, g50, g51, g52, g53, g54, g55, g56, g57, g58, g59, g60, g61, g62, g63, g64, g65, g66, g67, g68, g69, g70, (.bool y71), g72, g73, (.bool y74), g75, g76, g77, g78, g79, g80, g81, g82, g83, (.bool y84), g85, g86, g87, g88, g89, g90, g91, g92, g93, g94, g95, g96, g97, g98, g99, g100, g101, g102, g103, g104, g105, g106, g107, g108, g109, g110, g111, g112, g113, g114, g115], []⟩ S (fun v S1 => v = (.bool p.1) ∧ S1 = p.2) := by
  unfold J13 at h
  rcases ifc h with ⟨hc42, h⟩ | ⟨hc42, h⟩
  · refine q_skip (dst := some 85) (t := 71) rfl rfl rfl hc42 ?_
    refine qS 86 rfl (ok_pick_tt · (.tmp rfl) hc42 (.bool _)) ?_
    refine hr_region_end ?_
    try dsimp only [w0, w1, w2, w3]
    try dsimp only [w0, w1, w2, w3]
    exact J6_snd  h
  · rcases ifc h with ⟨hc43, h⟩ | ⟨hc43, h⟩
    · refine qG 71 85 rfl (bfalse hc42) (ok_pick_tt · (.tmp rfl) hc43 (.tmp rfl)) ?_
      try dsimp only [w0, w1, w2, w3]
      exact J14_snd  h
    · refine qG 71 85 rfl (bfalse hc42) (ok_pick_ff · (.tmp rfl) (bfalse hc43) (.bool _)) ?_
      try dsimp only [w0, w1, w2, w3]
      exact J14_snd  h
def J12 (k : Nat) (y0 : (List UInt8)) (y1 : (List UInt8)) (y2 : (List UInt8)) (y3 : (List UInt8)) (y9 : (List UInt8)) (y10 : (List UInt8)) (y11 : (List UInt8)) (y12 : (List UInt8)) (y71 : Bool) (y74 : Bool) (y80 : Bool) (S : HS) : Option ((Bool) × HS) :=
  (if y74 = true then
  (if y80 = true then
  J13 k y0 y1 y2 y3 y9 y10 y11 y12 y71 y74 true S else
  (Option.bind (rollcalllaw04_star.f k y12) fun p45 =>
  J13 k y0 y1 y2 y3 y9 y10 y11 y12 y71 y74 p45 S)) else
  (if y71 = true then
  J6 k y0 y1 y2 y3 y9 y10 y11 y12 true S else
  J14 k y0 y1 y2 y3 y9 y10 y11 y12 y71 false S))
theorem J12_snd {k : Nat}  {y0 : (List UInt8)} {y1 : (List UInt8)} {y2 : (List UInt8)} {y3 : (List UInt8)} {y9 : (List UInt8)} {y10 : (List UInt8)} {y11 : (List UInt8)} {y12 : (List UInt8)} {y71 : Bool} {y74 : Bool} {y80 : Bool} {S : HS} {p : (Bool) × HS} {g4 g5 g6 g7 g8 g13 g14 g15 g16 g17 g18 g19 g20 g21 g22 g23 g24 g25 g26 g27 g28 g29 g30 g31 g32 g33 g34 g35 g36 g37 g38 g39 g40 g41 g42 g43 g44 g45 g46 g47 g48 g49 g50 g51 g52 g53 g54 g55 g56 g57 g58 g59 g60 g61 g62 g63 g64 g65 g66 g67 g68 g69 g70 g72 g73 g75 g76 g77 g78 g79 g81 g82 g83 g84 g85 g86 g87 g88 g89 g90 g91 g92 g93 g94 g95 g96 g97 g98 g99 g100 g101 g102 g103 g104 g105 g106 g107 g108 g109 g110 g111 g112 g113 g114 g115 : HV} (h : J12 k y0 y1 y2 y3 y9 y10 y11 y12 y71 y74 y80 S = some p) : HRun Tryd.prog base W0 β0 8 none [.inRegion r32 [12, 13, 14, 15, 16, 17], .code c33, .code c38] ⟨[(.str y0), (.str y1), (.str y2), (.str y3), g4, g5, g6, g7, g8, (.str y9), (.str y10), (.str y11), (.str y12), g13, g14, g15, g16, g17, g18, g19, g20, g21, g22, g23, g24, g25, g26, g27, g28, g29, g30, g31, g32, g33, g34, g35, g36, g37, g38, g39, g40, g41, g42, g43, g44, g45, g46, g47, g48, g49, g50, g51, g52, g53, g54, g55, g56, g57, g58, g59, g60, g61, g62, g63, g64, g65, g66, g67, g68, g69, g70, (.bool y71), g72, g73, (.bool y74), g75, g76, g77, g78, g79, (.bool y80), g81, g82, g83, g84, g85, g86, g87, g88, g89, g90, g91, g92, g93, g94, g95, g96, g97, g98, g99, g100, g101, g102, g103, g104, g105, g106, g107, g108, g109, g110, g111, g112, g113, g114, g115], []⟩ S (fun v S1 => v = (.bool p.1) ∧ S1 = p.2) := by
  unfold J12 at h
  rcases ifc h with ⟨hc40, h⟩ | ⟨hc40, h⟩
  · refine qG 74 81 rfl hc40 (ok_move · (.tmp rfl)) ?_
    rcases ifc h with ⟨hc41, h⟩ | ⟨hc41, h⟩
    · refine q_skip (dst := some 82) (t := 81) rfl rfl rfl hc41 ?_
      refine q_skip (dst := some 83) (t := 81) rfl rfl rfl hc41 ?_
      refine qG 74 84 rfl hc40 (ok_pick_tt · (.tmp rfl) hc41 (.bool _)) ?_
      try dsimp only [w0, w1, w2, w3]
      try dsimp only [w0, w1, w2, w3]
      exact J13_snd  h
    · refine qG 81 82 rfl (bfalse hc41) (ok_move · (.tmp rfl)) ?_
      obtain ⟨p45, hp45, h⟩ := bindo h
      refine q_call_g (t := 81) (dst := some 83) rfl rfl rfl (bfalse hc41) (.func _) (.cons (.tmp rfl) Evs.nil) (HInv.static rollcalllaw04_star.at_ rollcalllaw04_star.body (rollcalllaw04_star.snd  hp45)) ?_
      rintro _ _ ⟨rfl, rfl⟩
      refine qG 74 84 rfl hc40 (ok_pick_ff · (.tmp rfl) (bfalse hc41) (.tmp rfl)) ?_
      try dsimp only [w0, w1, w2, w3]
      try dsimp only [w0, w1, w2, w3]
      exact J13_snd  h
  · refine q_skip (dst := some 81) (t := 74) rfl rfl rfl (bfalse hc40) ?_
    refine q_skip_u (dst := some 82) (t := 81) rfl rfl rfl ?_
    refine q_skip_u (dst := some 83) (t := 81) rfl rfl rfl ?_
    refine q_skip (dst := some 84) (t := 74) rfl rfl rfl (bfalse hc40) ?_
    try dsimp only [w0, w1, w2, w3]
    rcases ifc h with ⟨hc46, h⟩ | ⟨hc46, h⟩
    · refine q_skip (dst := some 85) (t := 71) rfl rfl rfl hc46 ?_
      refine qS 86 rfl (ok_pick_tt · (.tmp rfl) hc46 (.bool _)) ?_
      refine hr_region_end ?_
      try dsimp only [w0, w1, w2, w3]
      try dsimp only [w0, w1, w2, w3]
      exact J6_snd  h
    · refine qG 71 85 rfl (bfalse hc46) (ok_pick_ff · (.tmp rfl) (bfalse hc40) (.bool _)) ?_
      try dsimp only [w0, w1, w2, w3]
      exact J14_snd  h
def J5 (k : Nat) (y0 : (List UInt8)) (y1 : (List UInt8)) (y2 : (List UInt8)) (y3 : (List UInt8)) (y45 : Bool) (S : HS) : Option ((Bool) × HS) :=
  (if y45 = true then
  some (true, S) else
  (if List.length y1 + List.length ([33] : List UInt8) ≤ 9223372036854775807 then
  (if List.length (y1 ++ ([33] : List UInt8)) + List.length y2 ≤ 9223372036854775807 then
  (if List.length ((y1 ++ ([33] : List UInt8)) ++ y2) + List.length ([64] : List UInt8) ≤ 9223372036854775807 then
  (if List.length (((y1 ++ ([33] : List UInt8)) ++ y2) ++ ([64] : List UInt8)) + List.length y3 ≤ 9223372036854775807 then
  (Option.bind (glob_Match.f k y0 ((((y1 ++ ([33] : List UInt8)) ++ y2) ++ ([64] : List UInt8)) ++ y3) S) fun p14 =>
  (Option.bind (rollcallref01_Text.f k y0 p14.2) fun p15 =>
  (Option.bind (rollcallref01_Text.f k ((((y1 ++ ([33] : List UInt8)) ++ y2) ++ ([64] : List UInt8)) ++ y3) p15.2) fun p16 =>
  (Option.bind (glob_Match.f k p15.1 p16.1 p16.2) fun p17 =>
  (if (!(p14.1 == p17.1)) = true then
  some (false, p17.2) else
  (Option.bind (glob_Cut.f k y0 p17.2) fun p19 =>
  (if (!p19.1.2.2.2) = true then
  J6 k y0 y1 y2 y3 ((((y1 ++ ([33] : List UInt8)) ++ y2) ++ ([64] : List UInt8)) ++ y3) p19.1.1 p19.1.2.1 p19.1.2.2.1 true p19.2 else
  (Option.bind (glob_Wild.f y0) fun p36 =>
  (if p36 = true then
  (Option.bind (rollcalllaw04_star.f k p19.1.1) fun p38 =>
  (if p38 = true then
  J12 k y0 y1 y2 y3 ((((y1 ++ ([33] : List UInt8)) ++ y2) ++ ([64] : List UInt8)) ++ y3) p19.1.1 p19.1.2.1 p19.1.2.2.1 (!p19.1.2.2.2) p36 true p19.2 else
  (Option.bind (rollcalllaw04_star.f k p19.1.2.1) fun p47 =>
  J12 k y0 y1 y2 y3 ((((y1 ++ ([33] : List UInt8)) ++ y2) ++ ([64] : List UInt8)) ++ y3) p19.1.1 p19.1.2.1 p19.1.2.2.1 (!p19.1.2.2.2) p36 p47 p19.2))) else
  J14 k y0 y1 y2 y3 ((((y1 ++ ([33] : List UInt8)) ++ y2) ++ ([64] : List UInt8)) ++ y3) p19.1.1 p19.1.2.1 p19.1.2.2.1 (!p19.1.2.2.2) false p19.2))))))))) else none) else none) else none) else none))
theorem J5_snd {k : Nat}  {y0 : (List UInt8)} {y1 : (List UInt8)} {y2 : (List UInt8)} {y3 : (List UInt8)} {y45 : Bool} {S : HS} {p : (Bool) × HS} {g4 g5 g6 g7 g8 g9 g10 g11 g12 g13 g14 g15 g16 g17 g18 g19 g20 g21 g22 g23 g24 g25 g26 g27 g28 g29 g30 g31 g32 g33 g34 g35 g36 g37 g38 g39 g40 g41 g42 g43 g44 g46 g47 g48 g49 g50 g51 g52 g53 g54 g55 g56 g57 g58 g59 g60 g61 g62 g63 g64 g65 g66 g67 g68 g69 g70 g71 g72 g73 g74 g75 g76 g77 g78 g79 g80 g81 g82 g83 g84 g85 g86 g87 g88 g89 g90 g91 g92 g93 g94 g95 g96 g97 g98 g99 g100 g101 g102 g103 g104 g105 g106 g107 g108 g109 g110 g111 g112 g113 g114 g115 : HV} (h : J5 k y0 y1 y2 y3 y45 S = some p) : HRun Tryd.prog base W0 β0 8 none [.code c13, .code c18] ⟨[(.str y0), (.str y1), (.str y2), (.str y3), g4, g5, g6, g7, g8, g9, g10, g11, g12, g13, g14, g15, g16, g17, g18, g19, g20, g21, g22, g23, g24, g25, g26, g27, g28, g29, g30, g31, g32, g33, g34, g35, g36, g37, g38, g39, g40, g41, g42, g43, g44, (.bool y45), g46, g47, g48, g49, g50, g51, g52, g53, g54, g55, g56, g57, g58, g59, g60, g61, g62, g63, g64, g65, g66, g67, g68, g69, g70, g71, g72, g73, g74, g75, g76, g77, g78, g79, g80, g81, g82, g83, g84, g85, g86, g87, g88, g89, g90, g91, g92, g93, g94, g95, g96, g97, g98, g99, g100, g101, g102, g103, g104, g105, g106, g107, g108, g109, g110, g111, g112, g113, g114, g115], []⟩ S (fun v S1 => v = (.bool p.1) ∧ S1 = p.2) := by
  unfold J5 at h
  rcases ifc h with ⟨hc9, h⟩ | ⟨hc9, h⟩
  · refine q_cond_t rfl (.tmp rfl) hc9 ?_
    refine q_seq rfl ?_
    refine q_region rfl rfl ?_
    refine qS 8 rfl (ok_assign · (.bool _)) ?_
    refine hr_region_end ?_
    try dsimp only [w0, w1, w2, w3]
    cases h
    exact q_ret rfl at_.at_ rfl (res1 rfl rfl) ⟨rfl, rfl⟩
  · refine q_cond_f rfl (.tmp rfl) (bfalse hc9) ?_
    refine q_skipc rfl ?_
    refine q_seq rfl ?_
    refine q_region rfl rfl ?_
    refine qS 46 rfl (ok_move · (.tmp rfl)) ?_
    obtain ⟨hg10, h⟩ := gd h
    refine qS 47 rfl (ok_sadd · (.tmp rfl) (.str _) hg10) ?_
    refine qS 48 rfl (ok_move · (.tmp rfl)) ?_
    obtain ⟨hg11, h⟩ := gd h
    refine qS 49 rfl (ok_sadd · (.tmp rfl) (.tmp rfl) hg11) ?_
    try dsimp only [w0, w1, w2, w3]
    obtain ⟨hg12, h⟩ := gd h
    refine qS 50 rfl (ok_sadd · (.tmp rfl) (.str _) hg12) ?_
    refine qS 51 rfl (ok_move · (.tmp rfl)) ?_
    obtain ⟨hg13, h⟩ := gd h
    refine qS 52 rfl (ok_sadd · (.tmp rfl) (.tmp rfl) hg13) ?_
    refine qS 9 rfl (ok_assign · (.tmp rfl)) ?_
    refine hr_region_end ?_
    try dsimp only [w0, w1, w2, w3]
    refine q_seq rfl ?_
    refine q_seq rfl ?_
    refine q_region rfl rfl ?_
    refine qS 53 rfl (ok_move · (.tmp rfl)) ?_
    refine qS 54 rfl (ok_move · (.tmp rfl)) ?_
    obtain ⟨p14, hp14, h⟩ := bindo h
    refine q_call (dst := some 55) rfl (.func _) (.cons (.tmp rfl) (.cons (.tmp rfl) Evs.nil)) (HInv.static glob_Match.at_ glob_Match.body (glob_Match.snd  hp14)) ?_
    rintro _ _ ⟨rfl, rfl⟩
    refine qS 56 rfl (ok_move · (.tmp rfl)) ?_
    try dsimp only [w0, w1, w2, w3]
    obtain ⟨p15, hp15, h⟩ := bindo h
    refine q_call (dst := some 57) rfl (.func _) (.cons (.tmp rfl) Evs.nil) (HInv.static rollcallref01_Text.at_ rollcallref01_Text.body (rollcallref01_Text.snd  hp15)) ?_
    rintro _ _ ⟨rfl, rfl⟩
    refine qS 58 rfl (ok_move · (.tmp rfl)) ?_
    obtain ⟨p16, hp16, h⟩ := bindo h
    refine q_call (dst := some 59) rfl (.func _) (.cons (.tmp rfl) Evs.nil) (HInv.static rollcallref01_Text.at_ rollcallref01_Text.body (rollcallref01_Text.snd  hp16)) ?_
    rintro _ _ ⟨rfl, rfl⟩
    obtain ⟨p17, hp17, h⟩ := bindo h
    refine q_call (dst := some 60) rfl (.func _) (.cons (.tmp rfl) (.cons (.tmp rfl) Evs.nil)) (HInv.static glob_Match.at_ glob_Match.body (glob_Match.snd  hp17)) ?_
    rintro _ _ ⟨rfl, rfl⟩
    try dsimp only [w0, w1, w2, w3]
    refine qS 61 rfl (ok_beq · tu4 (.inr ⟨rfl, rfl⟩) (.tmp rfl) (.tmp rfl)) ?_
    refine hr_region_end ?_
    try dsimp only [w0, w1, w2, w3]
    rcases ifc h with ⟨hc18, h⟩ | ⟨hc18, h⟩
    · refine q_cond_t rfl (.tmp rfl) hc18 ?_
      refine q_seq rfl ?_
      refine q_region rfl rfl ?_
      refine qS 8 rfl (ok_assign · (.bool _)) ?_
      refine hr_region_end ?_
      try dsimp only [w0, w1, w2, w3]
      cases h
      exact q_ret rfl at_.at_ rfl (res1 rfl rfl) ⟨rfl, rfl⟩
    · refine q_cond_f rfl (.tmp rfl) (bfalse hc18) ?_
      refine q_skipc rfl ?_
      refine q_seq rfl ?_
      refine q_region rfl rfl ?_
      refine qS 63 rfl (ok_move · (.tmp rfl)) ?_
      obtain ⟨p19, hp19, h⟩ := bindo h
      refine q_call (dst := some 64) rfl (.func _) (.cons (.tmp rfl) Evs.nil) (HInv.static glob_Cut.at_ glob_Cut.body (glob_Cut.snd  hp19)) ?_
      rintro _ _ ⟨rfl, rfl⟩
      refine qS 62 rfl (ok_move · (.tmp rfl)) ?_
      refine qS 65 rfl (ok_extract · (.tmp rfl) rfl) ?_
      try dsimp only [w0, w1, w2, w3]
      refine qS 66 rfl (ok_extract · (.tmp rfl) rfl) ?_
      refine qS 67 rfl (ok_extract · (.tmp rfl) rfl) ?_
      refine qS 68 rfl (ok_extract · (.tmp rfl) rfl) ?_
      refine qS 10 rfl (ok_assign · (.tmp rfl)) ?_
      try dsimp only [w0, w1, w2, w3]
      refine qS 11 rfl (ok_assign · (.tmp rfl)) ?_
      refine qS 12 rfl (ok_assign · (.tmp rfl)) ?_
      refine qS 13 rfl (ok_assign · (.tmp rfl)) ?_
      refine hr_region_end ?_
      try dsimp only [w0, w1, w2, w3]
      refine q_seq rfl ?_
      refine q_seq rfl ?_
      refine q_region rfl rfl ?_
      refine qS 69 rfl (ok_move · (.tmp rfl)) ?_
      refine qS 70 rfl (ok_not · (.tmp rfl)) ?_
      refine qS 71 rfl (ok_move · (.tmp rfl)) ?_
      rcases ifc h with ⟨hc20, h⟩ | ⟨hc20, h⟩
      · refine q_skip (dst := some 72) (t := 71) rfl rfl rfl hc20 ?_
        try dsimp only [w0, w1, w2, w3]
        refine q_skip (dst := some 73) (t := 71) rfl rfl rfl hc20 ?_
        refine q_skip (dst := some 74) (t := 71) rfl rfl rfl hc20 ?_
        refine q_skip_u (dst := some 75) (t := 74) rfl rfl rfl ?_
        refine q_skip_u (dst := some 76) (t := 74) rfl rfl rfl ?_
        try dsimp only [w0, w1, w2, w3]
        refine q_skip_u (dst := some 77) (t := 74) rfl rfl rfl ?_
        refine q_skip_u (dst := some 78) (t := 77) rfl rfl rfl ?_
        refine q_skip_u (dst := some 79) (t := 77) rfl rfl rfl ?_
        refine q_skip_u (dst := some 80) (t := 74) rfl rfl rfl ?_
        try dsimp only [w0, w1, w2, w3]
        refine q_skip_u (dst := some 81) (t := 74) rfl rfl rfl ?_
        refine q_skip_u (dst := some 82) (t := 81) rfl rfl rfl ?_
        refine q_skip_u (dst := some 83) (t := 81) rfl rfl rfl ?_
        refine q_skip_u (dst := some 84) (t := 74) rfl rfl rfl ?_
        try dsimp only [w0, w1, w2, w3]
        refine q_skip (dst := some 85) (t := 71) rfl rfl rfl hc20 ?_
        refine qS 86 rfl (ok_pick_tt · (.tmp rfl) hc20 (.bool _)) ?_
        refine hr_region_end ?_
        try dsimp only [w0, w1, w2, w3]
        try dsimp only [w0, w1, w2, w3]
        exact J6_snd  h
      · refine qG 71 72 rfl (bfalse hc20) (ok_move · (.tmp rfl)) ?_
        try dsimp only [w0, w1, w2, w3]
        obtain ⟨p36, hp36, h⟩ := bindo h
        refine q_call_g (t := 71) (dst := some 73) rfl rfl rfl (bfalse hc20) (.func _) (.cons (.tmp rfl) Evs.nil) (HInv.static glob_Wild.at_ glob_Wild.body (glob_Wild.snd  hp36)) ?_
        rintro _ _ ⟨rfl, rfl⟩
        refine qG 71 74 rfl (bfalse hc20) (ok_move · (.tmp rfl)) ?_
        rcases ifc h with ⟨hc37, h⟩ | ⟨hc37, h⟩
        · refine qG 74 75 rfl hc37 (ok_move · (.tmp rfl)) ?_
          obtain ⟨p38, hp38, h⟩ := bindo h
          refine q_call_g (t := 74) (dst := some 76) rfl rfl rfl hc37 (.func _) (.cons (.tmp rfl) Evs.nil) (HInv.static rollcalllaw04_star.at_ rollcalllaw04_star.body (rollcalllaw04_star.snd  hp38)) ?_
          rintro _ _ ⟨rfl, rfl⟩
          try dsimp only [w0, w1, w2, w3]
          refine qG 74 77 rfl hc37 (ok_move · (.tmp rfl)) ?_
          rcases ifc h with ⟨hc39, h⟩ | ⟨hc39, h⟩
          · refine q_skip (dst := some 78) (t := 77) rfl rfl rfl hc39 ?_
            refine q_skip (dst := some 79) (t := 77) rfl rfl rfl hc39 ?_
            refine qG 74 80 rfl hc37 (ok_pick_tt · (.tmp rfl) hc39 (.bool _)) ?_
            try dsimp only [w0, w1, w2, w3]
            try dsimp only [w0, w1, w2, w3]
            exact J12_snd  h
          · refine qG 77 78 rfl (bfalse hc39) (ok_move · (.tmp rfl)) ?_
            obtain ⟨p47, hp47, h⟩ := bindo h
            refine q_call_g (t := 77) (dst := some 79) rfl rfl rfl (bfalse hc39) (.func _) (.cons (.tmp rfl) Evs.nil) (HInv.static rollcalllaw04_star.at_ rollcalllaw04_star.body (rollcalllaw04_star.snd  hp47)) ?_
            rintro _ _ ⟨rfl, rfl⟩
            refine qG 74 80 rfl hc37 (ok_pick_ff · (.tmp rfl) (bfalse hc39) (.tmp rfl)) ?_
            try dsimp only [w0, w1, w2, w3]
            try dsimp only [w0, w1, w2, w3]
            exact J12_snd  h
        · refine q_skip (dst := some 75) (t := 74) rfl rfl rfl (bfalse hc37) ?_
          refine q_skip (dst := some 76) (t := 74) rfl rfl rfl (bfalse hc37) ?_
          try dsimp only [w0, w1, w2, w3]
          refine q_skip (dst := some 77) (t := 74) rfl rfl rfl (bfalse hc37) ?_
          refine q_skip_u (dst := some 78) (t := 77) rfl rfl rfl ?_
          refine q_skip_u (dst := some 79) (t := 77) rfl rfl rfl ?_
          refine q_skip (dst := some 80) (t := 74) rfl rfl rfl (bfalse hc37) ?_
          try dsimp only [w0, w1, w2, w3]
          refine q_skip (dst := some 81) (t := 74) rfl rfl rfl (bfalse hc37) ?_
          refine q_skip_u (dst := some 82) (t := 81) rfl rfl rfl ?_
          refine q_skip_u (dst := some 83) (t := 81) rfl rfl rfl ?_
          refine q_skip (dst := some 84) (t := 74) rfl rfl rfl (bfalse hc37) ?_
          try dsimp only [w0, w1, w2, w3]
          refine qG 71 85 rfl (bfalse hc20) (ok_pick_ff · (.tmp rfl) (bfalse hc37) (.bool _)) ?_
          try dsimp only [w0, w1, w2, w3]
          exact J14_snd  h
def J4 (k : Nat) (y0 : (List UInt8)) (y1 : (List UInt8)) (y2 : (List UInt8)) (y3 : (List UInt8)) (y41 : Bool) (S : HS) : Option ((Bool) × HS) :=
  (if y41 = true then
  J5 k y0 y1 y2 y3 true S else
  (Option.bind (rollcalllaw04_marked.f k y3) fun p48 =>
  J5 k y0 y1 y2 y3 p48 S))
theorem J4_snd {k : Nat}  {y0 : (List UInt8)} {y1 : (List UInt8)} {y2 : (List UInt8)} {y3 : (List UInt8)} {y41 : Bool} {S : HS} {p : (Bool) × HS} {g4 g5 g6 g7 g8 g9 g10 g11 g12 g13 g14 g15 g16 g17 g18 g19 g20 g21 g22 g23 g24 g25 g26 g27 g28 g29 g30 g31 g32 g33 g34 g35 g36 g37 g38 g39 g40 g42 g43 g44 g45 g46 g47 g48 g49 g50 g51 g52 g53 g54 g55 g56 g57 g58 g59 g60 g61 g62 g63 g64 g65 g66 g67 g68 g69 g70 g71 g72 g73 g74 g75 g76 g77 g78 g79 g80 g81 g82 g83 g84 g85 g86 g87 g88 g89 g90 g91 g92 g93 g94 g95 g96 g97 g98 g99 g100 g101 g102 g103 g104 g105 g106 g107 g108 g109 g110 g111 g112 g113 g114 g115 : HV} (h : J4 k y0 y1 y2 y3 y41 S = some p) : HRun Tryd.prog base W0 β0 8 none [.inRegion r12 [26, 27, 28, 29], .code c13, .code c18] ⟨[(.str y0), (.str y1), (.str y2), (.str y3), g4, g5, g6, g7, g8, g9, g10, g11, g12, g13, g14, g15, g16, g17, g18, g19, g20, g21, g22, g23, g24, g25, g26, g27, g28, g29, g30, g31, g32, g33, g34, g35, g36, g37, g38, g39, g40, (.bool y41), g42, g43, g44, g45, g46, g47, g48, g49, g50, g51, g52, g53, g54, g55, g56, g57, g58, g59, g60, g61, g62, g63, g64, g65, g66, g67, g68, g69, g70, g71, g72, g73, g74, g75, g76, g77, g78, g79, g80, g81, g82, g83, g84, g85, g86, g87, g88, g89, g90, g91, g92, g93, g94, g95, g96, g97, g98, g99, g100, g101, g102, g103, g104, g105, g106, g107, g108, g109, g110, g111, g112, g113, g114, g115], []⟩ S (fun v S1 => v = (.bool p.1) ∧ S1 = p.2) := by
  unfold J4 at h
  refine qS 42 rfl (ok_move · (.tmp rfl)) ?_
  rcases ifc h with ⟨hc8, h⟩ | ⟨hc8, h⟩
  · refine q_skip (dst := some 43) (t := 42) rfl rfl rfl hc8 ?_
    try dsimp only [w0, w1, w2, w3]
    refine q_skip (dst := some 44) (t := 42) rfl rfl rfl hc8 ?_
    refine qS 45 rfl (ok_pick_tt · (.tmp rfl) hc8 (.bool _)) ?_
    refine hr_region_end ?_
    try dsimp only [w0, w1, w2, w3]
    try dsimp only [w0, w1, w2, w3]
    exact J5_snd  h
  · refine qG 42 43 rfl (bfalse hc8) (ok_move · (.tmp rfl)) ?_
    try dsimp only [w0, w1, w2, w3]
    obtain ⟨p48, hp48, h⟩ := bindo h
    refine q_call_g (t := 42) (dst := some 44) rfl rfl rfl (bfalse hc8) (.func _) (.cons (.tmp rfl) Evs.nil) (HInv.static rollcalllaw04_marked.at_ rollcalllaw04_marked.body (rollcalllaw04_marked.snd  hp48)) ?_
    rintro _ _ ⟨rfl, rfl⟩
    refine qS 45 rfl (ok_pick_ff · (.tmp rfl) (bfalse hc8) (.tmp rfl)) ?_
    refine hr_region_end ?_
    try dsimp only [w0, w1, w2, w3]
    try dsimp only [w0, w1, w2, w3]
    exact J5_snd  h
def J3 (k : Nat) (y0 : (List UInt8)) (y1 : (List UInt8)) (y2 : (List UInt8)) (y3 : (List UInt8)) (y37 : Bool) (S : HS) : Option ((Bool) × HS) :=
  (if y37 = true then
  J4 k y0 y1 y2 y3 true S else
  (Option.bind (rollcalllaw04_marked.f k y2) fun p49 =>
  J4 k y0 y1 y2 y3 p49 S))
theorem J3_snd {k : Nat}  {y0 : (List UInt8)} {y1 : (List UInt8)} {y2 : (List UInt8)} {y3 : (List UInt8)} {y37 : Bool} {S : HS} {p : (Bool) × HS} {g4 g5 g6 g7 g8 g9 g10 g11 g12 g13 g14 g15 g16 g17 g18 g19 g20 g21 g22 g23 g24 g25 g26 g27 g28 g29 g30 g31 g32 g33 g34 g35 g36 g38 g39 g40 g41 g42 g43 g44 g45 g46 g47 g48 g49 g50 g51 g52 g53 g54 g55 g56 g57 g58 g59 g60 g61 g62 g63 g64 g65 g66 g67 g68 g69 g70 g71 g72 g73 g74 g75 g76 g77 g78 g79 g80 g81 g82 g83 g84 g85 g86 g87 g88 g89 g90 g91 g92 g93 g94 g95 g96 g97 g98 g99 g100 g101 g102 g103 g104 g105 g106 g107 g108 g109 g110 g111 g112 g113 g114 g115 : HV} (h : J3 k y0 y1 y2 y3 y37 S = some p) : HRun Tryd.prog base W0 β0 8 none [.inRegion r12 [22, 23, 24, 25, 26, 27, 28, 29], .code c13, .code c18] ⟨[(.str y0), (.str y1), (.str y2), (.str y3), g4, g5, g6, g7, g8, g9, g10, g11, g12, g13, g14, g15, g16, g17, g18, g19, g20, g21, g22, g23, g24, g25, g26, g27, g28, g29, g30, g31, g32, g33, g34, g35, g36, (.bool y37), g38, g39, g40, g41, g42, g43, g44, g45, g46, g47, g48, g49, g50, g51, g52, g53, g54, g55, g56, g57, g58, g59, g60, g61, g62, g63, g64, g65, g66, g67, g68, g69, g70, g71, g72, g73, g74, g75, g76, g77, g78, g79, g80, g81, g82, g83, g84, g85, g86, g87, g88, g89, g90, g91, g92, g93, g94, g95, g96, g97, g98, g99, g100, g101, g102, g103, g104, g105, g106, g107, g108, g109, g110, g111, g112, g113, g114, g115], []⟩ S (fun v S1 => v = (.bool p.1) ∧ S1 = p.2) := by
  unfold J3 at h
  refine qS 38 rfl (ok_move · (.tmp rfl)) ?_
  rcases ifc h with ⟨hc7, h⟩ | ⟨hc7, h⟩
  · refine q_skip (dst := some 39) (t := 38) rfl rfl rfl hc7 ?_
    try dsimp only [w0, w1, w2, w3]
    refine q_skip (dst := some 40) (t := 38) rfl rfl rfl hc7 ?_
    refine qS 41 rfl (ok_pick_tt · (.tmp rfl) hc7 (.bool _)) ?_
    try dsimp only [w0, w1, w2, w3]
    exact J4_snd  h
  · refine qG 38 39 rfl (bfalse hc7) (ok_move · (.tmp rfl)) ?_
    try dsimp only [w0, w1, w2, w3]
    obtain ⟨p49, hp49, h⟩ := bindo h
    refine q_call_g (t := 38) (dst := some 40) rfl rfl rfl (bfalse hc7) (.func _) (.cons (.tmp rfl) Evs.nil) (HInv.static rollcalllaw04_marked.at_ rollcalllaw04_marked.body (rollcalllaw04_marked.snd  hp49)) ?_
    rintro _ _ ⟨rfl, rfl⟩
    refine qS 41 rfl (ok_pick_ff · (.tmp rfl) (bfalse hc7) (.tmp rfl)) ?_
    try dsimp only [w0, w1, w2, w3]
    exact J4_snd  h
def J2 (k : Nat) (y0 : (List UInt8)) (y1 : (List UInt8)) (y2 : (List UInt8)) (y3 : (List UInt8)) (y33 : Bool) (S : HS) : Option ((Bool) × HS) :=
  (if y33 = true then
  J3 k y0 y1 y2 y3 true S else
  (Option.bind (rollcalllaw04_marked.f k y1) fun p50 =>
  J3 k y0 y1 y2 y3 p50 S))
theorem J2_snd {k : Nat}  {y0 : (List UInt8)} {y1 : (List UInt8)} {y2 : (List UInt8)} {y3 : (List UInt8)} {y33 : Bool} {S : HS} {p : (Bool) × HS} {g4 g5 g6 g7 g8 g9 g10 g11 g12 g13 g14 g15 g16 g17 g18 g19 g20 g21 g22 g23 g24 g25 g26 g27 g28 g29 g30 g31 g32 g34 g35 g36 g37 g38 g39 g40 g41 g42 g43 g44 g45 g46 g47 g48 g49 g50 g51 g52 g53 g54 g55 g56 g57 g58 g59 g60 g61 g62 g63 g64 g65 g66 g67 g68 g69 g70 g71 g72 g73 g74 g75 g76 g77 g78 g79 g80 g81 g82 g83 g84 g85 g86 g87 g88 g89 g90 g91 g92 g93 g94 g95 g96 g97 g98 g99 g100 g101 g102 g103 g104 g105 g106 g107 g108 g109 g110 g111 g112 g113 g114 g115 : HV} (h : J2 k y0 y1 y2 y3 y33 S = some p) : HRun Tryd.prog base W0 β0 8 none [.inRegion r12 [18, 19, 20, 21, 22, 23, 24, 25, 26, 27, 28, 29], .code c13, .code c18] ⟨[(.str y0), (.str y1), (.str y2), (.str y3), g4, g5, g6, g7, g8, g9, g10, g11, g12, g13, g14, g15, g16, g17, g18, g19, g20, g21, g22, g23, g24, g25, g26, g27, g28, g29, g30, g31, g32, (.bool y33), g34, g35, g36, g37, g38, g39, g40, g41, g42, g43, g44, g45, g46, g47, g48, g49, g50, g51, g52, g53, g54, g55, g56, g57, g58, g59, g60, g61, g62, g63, g64, g65, g66, g67, g68, g69, g70, g71, g72, g73, g74, g75, g76, g77, g78, g79, g80, g81, g82, g83, g84, g85, g86, g87, g88, g89, g90, g91, g92, g93, g94, g95, g96, g97, g98, g99, g100, g101, g102, g103, g104, g105, g106, g107, g108, g109, g110, g111, g112, g113, g114, g115], []⟩ S (fun v S1 => v = (.bool p.1) ∧ S1 = p.2) := by
  unfold J2 at h
  refine qS 34 rfl (ok_move · (.tmp rfl)) ?_
  rcases ifc h with ⟨hc6, h⟩ | ⟨hc6, h⟩
  · refine q_skip (dst := some 35) (t := 34) rfl rfl rfl hc6 ?_
    try dsimp only [w0, w1, w2, w3]
    refine q_skip (dst := some 36) (t := 34) rfl rfl rfl hc6 ?_
    refine qS 37 rfl (ok_pick_tt · (.tmp rfl) hc6 (.bool _)) ?_
    try dsimp only [w0, w1, w2, w3]
    exact J3_snd  h
  · refine qG 34 35 rfl (bfalse hc6) (ok_move · (.tmp rfl)) ?_
    try dsimp only [w0, w1, w2, w3]
    obtain ⟨p50, hp50, h⟩ := bindo h
    refine q_call_g (t := 34) (dst := some 36) rfl rfl rfl (bfalse hc6) (.func _) (.cons (.tmp rfl) Evs.nil) (HInv.static rollcalllaw04_marked.at_ rollcalllaw04_marked.body (rollcalllaw04_marked.snd  hp50)) ?_
    rintro _ _ ⟨rfl, rfl⟩
    refine qS 37 rfl (ok_pick_ff · (.tmp rfl) (bfalse hc6) (.tmp rfl)) ?_
    try dsimp only [w0, w1, w2, w3]
    exact J3_snd  h
def J1 (k : Nat) (y0 : (List UInt8)) (y1 : (List UInt8)) (y2 : (List UInt8)) (y3 : (List UInt8)) (y28 : Bool) (S : HS) : Option ((Bool) × HS) :=
  (if y28 = true then
  J2 k y0 y1 y2 y3 true S else
  J2 k y0 y1 y2 y3 (decide ((List.length y3 : Int) > 30)) S)
theorem J1_snd {k : Nat}  {y0 : (List UInt8)} {y1 : (List UInt8)} {y2 : (List UInt8)} {y3 : (List UInt8)} {y28 : Bool} {S : HS} {p : (Bool) × HS} {g4 g5 g6 g7 g8 g9 g10 g11 g12 g13 g14 g15 g16 g17 g18 g19 g20 g21 g22 g23 g24 g25 g26 g27 g29 g30 g31 g32 g33 g34 g35 g36 g37 g38 g39 g40 g41 g42 g43 g44 g45 g46 g47 g48 g49 g50 g51 g52 g53 g54 g55 g56 g57 g58 g59 g60 g61 g62 g63 g64 g65 g66 g67 g68 g69 g70 g71 g72 g73 g74 g75 g76 g77 g78 g79 g80 g81 g82 g83 g84 g85 g86 g87 g88 g89 g90 g91 g92 g93 g94 g95 g96 g97 g98 g99 g100 g101 g102 g103 g104 g105 g106 g107 g108 g109 g110 g111 g112 g113 g114 g115 : HV} (h : J1 k y0 y1 y2 y3 y28 S = some p) : HRun Tryd.prog base W0 β0 8 none [.inRegion r12 [13, 14, 15, 16, 17, 18, 19, 20, 21, 22, 23, 24, 25, 26, 27, 28, 29], .code c13, .code c18] ⟨[(.str y0), (.str y1), (.str y2), (.str y3), g4, g5, g6, g7, g8, g9, g10, g11, g12, g13, g14, g15, g16, g17, g18, g19, g20, g21, g22, g23, g24, g25, g26, g27, (.bool y28), g29, g30, g31, g32, g33, g34, g35, g36, g37, g38, g39, g40, g41, g42, g43, g44, g45, g46, g47, g48, g49, g50, g51, g52, g53, g54, g55, g56, g57, g58, g59, g60, g61, g62, g63, g64, g65, g66, g67, g68, g69, g70, g71, g72, g73, g74, g75, g76, g77, g78, g79, g80, g81, g82, g83, g84, g85, g86, g87, g88, g89, g90, g91, g92, g93, g94, g95, g96, g97, g98, g99, g100, g101, g102, g103, g104, g105, g106, g107, g108, g109, g110, g111, g112, g113, g114, g115], []⟩ S (fun v S1 => v = (.bool p.1) ∧ S1 = p.2) := by
  unfold J1 at h
  refine qS 29 rfl (ok_move · (.tmp rfl)) ?_
  rcases ifc h with ⟨hc5, h⟩ | ⟨hc5, h⟩
  · refine q_skip (dst := some 30) (t := 29) rfl rfl rfl hc5 ?_
    refine q_skip (dst := some 31) (t := 29) rfl rfl rfl hc5 ?_
    try dsimp only [w0, w1, w2, w3]
    refine q_skip (dst := some 32) (t := 29) rfl rfl rfl hc5 ?_
    refine qS 33 rfl (ok_pick_tt · (.tmp rfl) hc5 (.bool _)) ?_
    try dsimp only [w0, w1, w2, w3]
    exact J2_snd  h
  · refine qG 29 30 rfl (bfalse hc5) (ok_move · (.tmp rfl)) ?_
    refine qG 29 31 rfl (bfalse hc5) (ok_len_str · rfl tu9 (.tmp rfl)) ?_
    try dsimp only [w0, w1, w2, w3]
    refine qG 29 32 rfl (bfalse hc5) (ok_ibin · (.tmp rfl) (.int _ _) rfl) ?_
    refine qS 33 rfl (ok_pick_ff · (.tmp rfl) (bfalse hc5) (.tmp rfl)) ?_
    try dsimp only [w0, w1, w2, w3]
    exact J2_snd  h
def J0 (k : Nat) (y0 : (List UInt8)) (y1 : (List UInt8)) (y2 : (List UInt8)) (y3 : (List UInt8)) (y23 : Bool) (S : HS) : Option ((Bool) × HS) :=
  (if y23 = true then
  J1 k y0 y1 y2 y3 true S else
  J1 k y0 y1 y2 y3 (decide ((List.length y2 : Int) > 30)) S)
theorem J0_snd {k : Nat}  {y0 : (List UInt8)} {y1 : (List UInt8)} {y2 : (List UInt8)} {y3 : (List UInt8)} {y23 : Bool} {S : HS} {p : (Bool) × HS} {g4 g5 g6 g7 g8 g9 g10 g11 g12 g13 g14 g15 g16 g17 g18 g19 g20 g21 g22 g24 g25 g26 g27 g28 g29 g30 g31 g32 g33 g34 g35 g36 g37 g38 g39 g40 g41 g42 g43 g44 g45 g46 g47 g48 g49 g50 g51 g52 g53 g54 g55 g56 g57 g58 g59 g60 g61 g62 g63 g64 g65 g66 g67 g68 g69 g70 g71 g72 g73 g74 g75 g76 g77 g78 g79 g80 g81 g82 g83 g84 g85 g86 g87 g88 g89 g90 g91 g92 g93 g94 g95 g96 g97 g98 g99 g100 g101 g102 g103 g104 g105 g106 g107 g108 g109 g110 g111 g112 g113 g114 g115 : HV} (h : J0 k y0 y1 y2 y3 y23 S = some p) : HRun Tryd.prog base W0 β0 8 none [.inRegion r12 [8, 9, 10, 11, 12, 13, 14, 15, 16, 17, 18, 19, 20, 21, 22, 23, 24, 25, 26, 27, 28, 29], .code c13, .code c18] ⟨[(.str y0), (.str y1), (.str y2), (.str y3), g4, g5, g6, g7, g8, g9, g10, g11, g12, g13, g14, g15, g16, g17, g18, g19, g20, g21, g22, (.bool y23), g24, g25, g26, g27, g28, g29, g30, g31, g32, g33, g34, g35, g36, g37, g38, g39, g40, g41, g42, g43, g44, g45, g46, g47, g48, g49, g50, g51, g52, g53, g54, g55, g56, g57, g58, g59, g60, g61, g62, g63, g64, g65, g66, g67, g68, g69, g70, g71, g72, g73, g74, g75, g76, g77, g78, g79, g80, g81, g82, g83, g84, g85, g86, g87, g88, g89, g90, g91, g92, g93, g94, g95, g96, g97, g98, g99, g100, g101, g102, g103, g104, g105, g106, g107, g108, g109, g110, g111, g112, g113, g114, g115], []⟩ S (fun v S1 => v = (.bool p.1) ∧ S1 = p.2) := by
  unfold J0 at h
  refine qS 24 rfl (ok_move · (.tmp rfl)) ?_
  rcases ifc h with ⟨hc4, h⟩ | ⟨hc4, h⟩
  · refine q_skip (dst := some 25) (t := 24) rfl rfl rfl hc4 ?_
    refine q_skip (dst := some 26) (t := 24) rfl rfl rfl hc4 ?_
    refine q_skip (dst := some 27) (t := 24) rfl rfl rfl hc4 ?_
    try dsimp only [w0, w1, w2, w3]
    refine qS 28 rfl (ok_pick_tt · (.tmp rfl) hc4 (.bool _)) ?_
    try dsimp only [w0, w1, w2, w3]
    exact J1_snd  h
  · refine qG 24 25 rfl (bfalse hc4) (ok_move · (.tmp rfl)) ?_
    refine qG 24 26 rfl (bfalse hc4) (ok_len_str · rfl tu9 (.tmp rfl)) ?_
    refine qG 24 27 rfl (bfalse hc4) (ok_ibin · (.tmp rfl) (.int _ _) rfl) ?_
    try dsimp only [w0, w1, w2, w3]
    refine qS 28 rfl (ok_pick_ff · (.tmp rfl) (bfalse hc4) (.tmp rfl)) ?_
    try dsimp only [w0, w1, w2, w3]
    exact J1_snd  h
def f (k : Nat) (x0 : (List UInt8)) (x1 : (List UInt8)) (x2 : (List UInt8)) (x3 : (List UInt8)) (S : HS) : Option ((Bool) × HS) :=
  (Option.bind (rollcalllaw04_awake.f k S) fun p1 =>
  (if (!p1.1) = true then
  some (false, p1.2) else
  (if (List.length x0 : Int) > 30 then
  J0 k x0 x1 x2 x3 true p1.2 else
  J0 k x0 x1 x2 x3 (decide ((List.length x1 : Int) > 30)) p1.2)))
theorem snd {k : Nat} {x0 : (List UInt8)} {x1 : (List UInt8)} {x2 : (List UInt8)} {x3 : (List UInt8)} {S : HS}  {p : (Bool) × HS} (h : f k x0 x1 x2 x3 S = some p) : HCall Tryd.prog base W0 β0 8 [(.str x0), (.str x1), (.str x2), (.str x3)] S (fun v S1 => v = (.bool p.1) ∧ S1 = p.2) := by
  unfold f at h
  refine HCall.of_run at_.at_ body ?_
  show HRun Tryd.prog base W0 β0 8 none [.code c0] ⟨[(.str x0), (.str x1), (.str x2), (.str x3), τ, τ, τ, τ, τ, τ, τ, τ, τ, τ, τ, τ, τ, τ, τ, τ, τ, τ, τ, τ, τ, τ, τ, τ, τ, τ, τ, τ, τ, τ, τ, τ, τ, τ, τ, τ, τ, τ, τ, τ, τ, τ, τ, τ, τ, τ, τ, τ, τ, τ, τ, τ, τ, τ, τ, τ, τ, τ, τ, τ, τ, τ, τ, τ, τ, τ, τ, τ, τ, τ, τ, τ, τ, τ, τ, τ, τ, τ, τ, τ, τ, τ, τ, τ, τ, τ, τ, τ, τ, τ, τ, τ, τ, τ, τ, τ, τ, τ, τ, τ, τ, τ, τ, τ, τ, τ, τ, τ, τ, τ, τ, τ], []⟩ S _
  refine q_seq rfl ?_
  refine q_region rfl rfl ?_
  refine qS 8 rfl (ok_assign · (.bool _)) ?_
  refine hr_region_end ?_
  try dsimp only [w0, w1, w2, w3]
  refine q_seq rfl ?_
  refine q_seq rfl ?_
  refine q_region rfl rfl ?_
  obtain ⟨p1, hp1, h⟩ := bindo h
  refine q_call (dst := some 14) rfl (.func _) Evs.nil (HInv.static rollcalllaw04_awake.at_ rollcalllaw04_awake.body (rollcalllaw04_awake.snd  hp1)) ?_
  rintro _ _ ⟨rfl, rfl⟩
  refine qS 15 rfl (ok_not · (.tmp rfl)) ?_
  refine hr_region_end ?_
  try dsimp only [w0, w1, w2, w3]
  rcases ifc h with ⟨hc2, h⟩ | ⟨hc2, h⟩
  · refine q_cond_t rfl (.tmp rfl) hc2 ?_
    refine q_seq rfl ?_
    refine q_region rfl rfl ?_
    refine qS 8 rfl (ok_assign · (.bool _)) ?_
    refine hr_region_end ?_
    try dsimp only [w0, w1, w2, w3]
    cases h
    exact q_ret rfl at_.at_ rfl (res1 rfl rfl) ⟨rfl, rfl⟩
  · refine q_cond_f rfl (.tmp rfl) (bfalse hc2) ?_
    refine q_skipc rfl ?_
    refine q_seq rfl ?_
    refine q_seq rfl ?_
    refine q_region rfl rfl ?_
    refine qS 16 rfl (ok_move · (.tmp rfl)) ?_
    refine qS 17 rfl (ok_len_str · rfl tu9 (.tmp rfl)) ?_
    refine qS 18 rfl (ok_ibin · (.tmp rfl) (.int _ _) rfl) ?_
    refine qS 19 rfl (ok_move · (.tmp rfl)) ?_
    try dsimp only [w0, w1, w2, w3]
    rcases ifc h with ⟨hc3, h⟩ | ⟨hc3, h⟩
    · refine q_skip (dst := some 20) (t := 19) rfl rfl rfl (decide_eq_true hc3) ?_
      refine q_skip (dst := some 21) (t := 19) rfl rfl rfl (decide_eq_true hc3) ?_
      refine q_skip (dst := some 22) (t := 19) rfl rfl rfl (decide_eq_true hc3) ?_
      refine qS 23 rfl (ok_pick_tt · (.tmp rfl) (decide_eq_true hc3) (.bool _)) ?_
      try dsimp only [w0, w1, w2, w3]
      try dsimp only [w0, w1, w2, w3]
      exact J0_snd  h
    · refine qG 19 20 rfl (decide_eq_false hc3) (ok_move · (.tmp rfl)) ?_
      refine qG 19 21 rfl (decide_eq_false hc3) (ok_len_str · rfl tu9 (.tmp rfl)) ?_
      refine qG 19 22 rfl (decide_eq_false hc3) (ok_ibin · (.tmp rfl) (.int _ _) rfl) ?_
      refine qS 23 rfl (ok_pick_ff · (.tmp rfl) (decide_eq_false hc3) (.tmp rfl)) ?_
      try dsimp only [w0, w1, w2, w3]
      try dsimp only [w0, w1, w2, w3]
      exact J0_snd  h
end
end rollcalllaw04_GlobFolds
end Go.Proofs.YtgplnlknejbglaaDoor.X
