/- Functions of the program, each as a Lean function over the layer HL: a call answers what the Lean function answers, where it answers. -/
import Derived.Test.YtcphapfclncggaaDoorProg
import Derived.Test.YtcphapfclncggaaDoorWaX
namespace Go.Proofs.YtcphapfclncggaaDoor.X
open Go.Proofs.YtcphapfclncggaaDoor.HL
set_option linter.unusedVariables false
set_option linter.unusedSimpArgs false
set_option maxRecDepth 20000
set_option maxHeartbeats 4000000
namespace valid_all
theorem at_ : FnAt Tryd.prog 40 Tryd.f40 := ⟨Tryd.func40, by kernel_rfl⟩
noncomputable def d0 := (Tryd.f40.body).getD .skip
noncomputable def r1 := kR (kA d0)
noncomputable def r4 := kR (kA (kA (kB d0)))
noncomputable def r7 := kR (kA (kA (kB (kA (kB d0)))))
noncomputable def r11 := kR (kA (kB (kB d0)))
noncomputable def d12 := kB (kB (kB d0))
noncomputable def r14 := kR (kA (kA d12))
noncomputable def d16 := kA (kB (kA d12))
noncomputable def r18 := kR (kA (kA d16))
noncomputable def d23 := kB (kB (kA d16))
noncomputable def r26 := kR (kA (kA (kA d23)))
noncomputable def r28 := kR (kA (kB (kA (kA d23))))
noncomputable def r31 := kR (kA (kA (kB (kB (kA (kA d23))))))
noncomputable def r34 := kR (kB d23)
noncomputable def r36 := kR (kA (kB d12))
noncomputable def c35 : Code := .seq (.region 10 r36 false) .ret
noncomputable def c17 : Code := .seq (.region 5 r18 false) (.seq (.cond (.tmp 25) .skip (.exit 0)) (.seq (.block 1 (.seq (.region 6 r26 false) (.seq (.region 7 r28 false) (.cond (.tmp 34) (.seq (.region 8 r31 false) .ret) .skip)))) (.region 9 r34 false)))
noncomputable def c10 : Code := .seq (.region 3 r11 false) (.seq (.seq (.region 4 r14 false) (.block 0 (.loop c17))) c35)
noncomputable def c5 : Code := .cond (.tmp 20) (.seq (.region 2 r7 false) .ret) .skip
noncomputable def c0 : Code := .seq (.region 0 r1 false) (.seq (.seq (.region 1 r4 false) c5) c10)
theorem body : Tryd.f40.body = some c0 := by kernel_rfl
section
variable {base : Nat} {W0 : World} {β0 : Bt}
def L1 (k : Nat) : Nat → (List UInt8) → Int → (Option HA) → Int → Int → HS → Option ((Bool) × HS)
  | 0, _, _, _, _, _, _ => none
  | n + 1, y0, y3, y9, y23, y24, S =>
    (if y24 < y23 then
    (Option.bind (sat y0 y24) fun p8 =>
    (Option.bind (y9) fun p9 =>
    (if 0 ≤ ((UInt8.toNat p8 : Int) : Int) ∧ ((UInt8.toNat p8 : Int) : Int) < 256 then
    (Option.bind (HS.ldI S .u16 (HA.fld p9 (Int.toNat (UInt8.toNat p8 : Int)))) fun p11 =>
    (if (iand .u16 p11 y3) = 0 then
    some (false, S) else
    (L1 k n) y0 y3 y9 y23 (w64 (y24 + 1)) S)) else none))) else
    some (true, S))
theorem L1_snd {k : Nat}  : ∀ {n : Nat} ⦃y0 : (List UInt8)⦄ ⦃y3 : Int⦄ ⦃y9 : (Option HA)⦄ ⦃y23 : Int⦄ ⦃y24 : Int⦄ ⦃S : HS⦄ ⦃p : (Bool) × HS⦄ ⦃g1 g2 g4 g5 g6 g7 g8 g10 g11 g12 g13 g14 g15 g16 g17 g18 g19 g20 g21 g22 g25 g26 g27 g28 g29 g30 g31 g32 g33 g34 g35 : HV⦄, L1 k n y0 y3 y9 y23 y24 S = some p → HRun Tryd.prog base W0 β0 40 none [.inLoop c17, .inBlock 0, .code c35] ⟨[(.str y0), g1, g2, (.int .u16 y3), g4, g5, g6, g7, g8, (.ptr y9), g10, g11, g12, g13, g14, g15, g16, g17, g18, g19, g20, g21, g22, (.int .i64 y23), (.int .i64 y24), g25, g26, g27, g28, g29, g30, g31, g32, g33, g34, g35], []⟩ S (fun v S1 => v = (.bool p.1) ∧ S1 = p.2) := by
  intro n
  induction n with
  | zero => intro _ _ _ _ _ _ _ _ _ _ _ _ _ _ _ _ _ _ _ _ _ _ _ _ _ _ _ _ _ _ _ _ _ _ _ _ _ _ h; cases h
  | succ n ih =>
    intro y0 y3 y9 y23 y24 S p g1 g2 g4 g5 g6 g7 g8 g10 g11 g12 g13 g14 g15 g16 g17 g18 g19 g20 g21 g22 g25 g26 g27 g28 g29 g30 g31 g32 g33 g34 g35 h
    simp only [L1] at h
    refine hr_inLoop ?_
    refine q_seq rfl ?_
    refine q_region rfl rfl ?_
    refine qS 25 rfl (ok_ibin · (.tmp rfl) (.tmp rfl) rfl) ?_
    refine hr_region_end ?_
    try dsimp only [w0, w1, w2, w3]
    refine q_seq rfl ?_
    rcases ifc h with ⟨hc7, h⟩ | ⟨hc7, h⟩
    · refine q_cond_t rfl (.tmp rfl) (decide_eq_true hc7) ?_
      refine q_skipc rfl ?_
      refine q_seq rfl ?_
      refine q_block rfl ?_
      refine q_seq rfl ?_
      refine q_region rfl rfl ?_
      refine qS 26 rfl (ok_move · (.tmp rfl)) ?_
      refine qS 10 rfl (ok_assign · (.tmp rfl)) ?_
      refine hr_region_end ?_
      try dsimp only [w0, w1, w2, w3]
      refine q_seq rfl ?_
      refine q_region rfl rfl ?_
      refine qS 27 rfl (ok_move · (.tmp rfl)) ?_
      refine qS 28 rfl (ok_move · (.tmp rfl)) ?_
      obtain ⟨p8, hp8, h⟩ := bindo h
      refine qS 29 rfl (ok_index_s · tu9 (.tmp rfl) (.tmp rfl) hp8) ?_
      obtain ⟨p9, hp9, h⟩ := bindo h
      obtain ⟨hg10, h⟩ := gd h
      refine qS 30 rfl (ok_indexAddr_arr · ta89 sz74 (.tmp rfl) hp9 (.tmp rfl) hg10) ?_
      try dsimp only [w0, w1, w2, w3]
      obtain ⟨p11, hp11, h⟩ := bindo h
      refine qS 31 rfl (ok_load_s · sc74 (.tmp rfl) rfl (ldI_out hp11)) ?_
      refine qS 32 rfl (ok_move · (.tmp rfl)) ?_
      refine qS 33 rfl (ok_ibin · (.tmp rfl) (.tmp rfl) rfl) ?_
      refine qS 34 rfl (ok_ibin · (.tmp rfl) (.int _ _) rfl) ?_
      refine hr_region_end ?_
      try dsimp only [w0, w1, w2, w3]
      rcases ifc h with ⟨hc12, h⟩ | ⟨hc12, h⟩
      · refine q_cond_t rfl (.tmp rfl) (decide_eq_true hc12) ?_
        refine q_seq rfl ?_
        refine q_region rfl rfl ?_
        refine qS 8 rfl (ok_assign · (.bool _)) ?_
        refine hr_region_end ?_
        try dsimp only [w0, w1, w2, w3]
        cases h
        exact q_ret rfl at_.at_ rfl (res1 rfl rfl) ⟨rfl, rfl⟩
      · refine q_cond_f rfl (.tmp rfl) (decide_eq_false hc12) ?_
        refine q_skipc rfl ?_
        refine hr_inBlock ?_
        refine q_region rfl rfl ?_
        refine qS 35 rfl (ok_ibin · (.tmp rfl) (.int _ _) rfl) ?_
        refine qS 24 rfl (ok_move · (.tmp rfl)) ?_
        refine hr_region_end ?_
        try dsimp only [w0, w1, w2, w3]
        try dsimp only [w0, w1, w2, w3]
        exact ih h
    · refine q_cond_f rfl (.tmp rfl) (decide_eq_false hc7) ?_
      refine q_exit rfl rfl ?_
      refine q_seq rfl ?_
      refine q_region rfl rfl ?_
      refine qS 8 rfl (ok_assign · (.bool _)) ?_
      refine hr_region_end ?_
      try dsimp only [w0, w1, w2, w3]
      cases h
      exact q_ret rfl at_.at_ rfl (res1 rfl rfl) ⟨rfl, rfl⟩
def J0 (k : Nat) (y0 : (List UInt8)) (y3 : Int) (y20 : Bool) (S : HS) : Option ((Bool) × HS) :=
  (if y20 = true then
  some (false, S) else
  (Option.bind (valid_kinds.f k S) fun p3 =>
  (letv (HS.new p3.2 (.cells 256 [List.replicate 256 (.int .u16 0)] true)) fun p4 =>
  (if List.length p3.1 = 256 ∧ List.all p3.1 HV.flat = true then
  (Option.bind (HS.sets p4 (HA.cell0 p3.2.next) p3.1) fun p6 =>
  L1 k k y0 y3 (some (HA.cell0 p3.2.next)) (List.length y0 : Int) 0 p6) else none))))
theorem J0_snd {k : Nat}  {y0 : (List UInt8)} {y3 : Int} {y20 : Bool} {S : HS} {p : (Bool) × HS} {g1 g2 g4 g5 g6 g7 g8 g9 g10 g11 g12 g13 g14 g15 g16 g17 g18 g19 g21 g22 g23 g24 g25 g26 g27 g28 g29 g30 g31 g32 g33 g34 g35 : HV} (h : J0 k y0 y3 y20 S = some p) : HRun Tryd.prog base W0 β0 40 none [.code c5, .code c10] ⟨[(.str y0), g1, g2, (.int .u16 y3), g4, g5, g6, g7, g8, g9, g10, g11, g12, g13, g14, g15, g16, g17, g18, g19, (.bool y20), g21, g22, g23, g24, g25, g26, g27, g28, g29, g30, g31, g32, g33, g34, g35], []⟩ S (fun v S1 => v = (.bool p.1) ∧ S1 = p.2) := by
  unfold J0 at h
  rcases ifc h with ⟨hc2, h⟩ | ⟨hc2, h⟩
  · refine q_cond_t rfl (.tmp rfl) hc2 ?_
    refine q_seq rfl ?_
    refine q_region rfl rfl ?_
    refine qS 8 rfl (ok_assign · (.bool _)) ?_
    refine hr_region_end ?_
    try dsimp only [w0, w1, w2, w3]
    cases h
    exact q_ret rfl at_.at_ rfl (res1 rfl rfl) ⟨rfl, rfl⟩
  · refine q_cond_f rfl (.tmp rfl) (bfalse hc2) ?_
    refine q_skipc rfl ?_
    refine q_seq rfl ?_
    refine q_region rfl rfl ?_
    obtain ⟨p3, hp3, h⟩ := bindo h
    refine q_call (dst := some 21) rfl (.func _) Evs.nil (HInv.static valid_kinds.at_ valid_kinds.body (valid_kinds.snd  hp3)) ?_
    rintro _ _ ⟨rfl, rfl⟩
    obtain ⟨p4, hp4, h⟩ := leto h
    refine qS 9 rfl (ok_alloc_arr · za89 (fun β => .int _ _) (by decide) rfl hp4) ?_
    obtain ⟨hg5, h⟩ := gd h
    obtain ⟨p6, hp6, h⟩ := bindo h
    refine qN rfl (ok_store_arr · sz89 (.tmp rfl) rfl (.tmp rfl) hg5 hp6) ?_
    refine hr_region_end ?_
    try dsimp only [w0, w1, w2, w3]
    refine q_seq rfl ?_
    refine q_seq rfl ?_
    refine q_region rfl rfl ?_
    refine qS 22 rfl (ok_move · (.tmp rfl)) ?_
    refine qS 23 rfl (ok_len_str · rfl tu9 (.tmp rfl)) ?_
    refine qS 24 rfl (ok_move · (.int _ _)) ?_
    refine hr_region_end ?_
    try dsimp only [w0, w1, w2, w3]
    refine q_block rfl ?_
    refine q_loop rfl ?_
    try dsimp only [w0, w1, w2, w3]
    exact L1_snd  h
def f (k : Nat) (x0 : (List UInt8)) (x1 : Int) (x2 : Int) (x3 : Int) (S : HS) : Option ((Bool) × HS) :=
  (if (List.length x0 : Int) < x1 then
  J0 k x0 x3 true S else
  J0 k x0 x3 (decide ((List.length x0 : Int) > x2)) S)
theorem snd {k : Nat} {x0 : (List UInt8)} {x1 : Int} {x2 : Int} {x3 : Int} {S : HS}  {p : (Bool) × HS} (h : f k x0 x1 x2 x3 S = some p) : HCall Tryd.prog base W0 β0 40 [(.str x0), (.int .i64 x1), (.int .i64 x2), (.int .u16 x3)] S (fun v S1 => v = (.bool p.1) ∧ S1 = p.2) := by
  unfold f at h
  refine HCall.of_run at_.at_ body ?_
  show HRun Tryd.prog base W0 β0 40 none [.code c0] ⟨[(.str x0), (.int .i64 x1), (.int .i64 x2), (.int .u16 x3), τ, τ, τ, τ, τ, τ, τ, τ, τ, τ, τ, τ, τ, τ, τ, τ, τ, τ, τ, τ, τ, τ, τ, τ, τ, τ, τ, τ, τ, τ, τ, τ], []⟩ S _
  refine q_seq rfl ?_
  refine q_region rfl rfl ?_
  refine qS 8 rfl (ok_assign · (.bool _)) ?_
  refine hr_region_end ?_
  try dsimp only [w0, w1, w2, w3]
  refine q_seq rfl ?_
  refine q_seq rfl ?_
  refine q_region rfl rfl ?_
  refine qS 11 rfl (ok_move · (.tmp rfl)) ?_
  refine qS 12 rfl (ok_len_str · rfl tu9 (.tmp rfl)) ?_
  refine qS 13 rfl (ok_move · (.tmp rfl)) ?_
  refine qS 14 rfl (ok_ibin · (.tmp rfl) (.tmp rfl) rfl) ?_
  try dsimp only [w0, w1, w2, w3]
  refine qS 15 rfl (ok_move · (.tmp rfl)) ?_
  rcases ifc h with ⟨hc1, h⟩ | ⟨hc1, h⟩
  · refine q_skip (dst := some 16) (t := 15) rfl rfl rfl (decide_eq_true hc1) ?_
    refine q_skip (dst := some 17) (t := 15) rfl rfl rfl (decide_eq_true hc1) ?_
    refine q_skip (dst := some 18) (t := 15) rfl rfl rfl (decide_eq_true hc1) ?_
    try dsimp only [w0, w1, w2, w3]
    refine q_skip (dst := some 19) (t := 15) rfl rfl rfl (decide_eq_true hc1) ?_
    refine qS 20 rfl (ok_pick_tt · (.tmp rfl) (decide_eq_true hc1) (.bool _)) ?_
    refine hr_region_end ?_
    try dsimp only [w0, w1, w2, w3]
    try dsimp only [w0, w1, w2, w3]
    exact J0_snd  h
  · refine qG 15 16 rfl (decide_eq_false hc1) (ok_move · (.tmp rfl)) ?_
    refine qG 15 17 rfl (decide_eq_false hc1) (ok_len_str · rfl tu9 (.tmp rfl)) ?_
    refine qG 15 18 rfl (decide_eq_false hc1) (ok_move · (.tmp rfl)) ?_
    try dsimp only [w0, w1, w2, w3]
    refine qG 15 19 rfl (decide_eq_false hc1) (ok_ibin · (.tmp rfl) (.tmp rfl) rfl) ?_
    refine qS 20 rfl (ok_pick_ff · (.tmp rfl) (decide_eq_false hc1) (.tmp rfl)) ?_
    refine hr_region_end ?_
    try dsimp only [w0, w1, w2, w3]
    try dsimp only [w0, w1, w2, w3]
    exact J0_snd  h
end
end valid_all
namespace valid_Nick
theorem at_ : FnAt Tryd.prog 25 Tryd.f25 := ⟨Tryd.func25, by kernel_rfl⟩
noncomputable def d0 := (Tryd.f25.body).getD .skip
noncomputable def r1 := kR (kA d0)
noncomputable def r3 := kR (kA (kB d0))
noncomputable def c4 : Code := .ret
noncomputable def c0 : Code := .seq (.region 0 r1 false) (.seq (.region 1 r3 false) c4)
theorem body : Tryd.f25.body = some c0 := by kernel_rfl
section
variable {base : Nat} {W0 : World} {β0 : Bt}
def J0 (k : Nat) (y9 : Bool) (S : HS) : Option ((Bool) × HS) :=
  some (y9, S)
theorem J0_snd {k : Nat}  {y9 : Bool} {S : HS} {p : (Bool) × HS} {g0 g1 g2 g3 g4 g5 g6 g7 g8 : HV} (h : J0 k y9 S = some p) : HRun Tryd.prog base W0 β0 25 none [.inRegion r3 [7], .code c4] ⟨[g0, g1, g2, g3, g4, g5, g6, g7, g8, (.bool y9)], []⟩ S (fun v S1 => v = (.bool p.1) ∧ S1 = p.2) := by
  unfold J0 at h
  refine qS 2 rfl (ok_assign · (.tmp rfl)) ?_
  refine hr_region_end ?_
  try dsimp only [w0, w1, w2, w3]
  cases h
  exact q_ret rfl at_.at_ rfl (res1 rfl rfl) ⟨rfl, rfl⟩
def f (k : Nat) (x0 : (List UInt8)) (S : HS) : Option ((Bool) × HS) :=
  (Option.bind (valid_all.f k x0 1 16 2 S) fun p1 =>
  (if p1.1 = true then
  (if 0 ≤ (0 : Int) ∧ (0 : Int) ≤ 1 ∧ (1 : Int) ≤ (List.length x0 : Int) then
  (Option.bind (valid_all.f k (ssub x0 0 1) 1 1 1 p1.2) fun p4 =>
  J0 k p4.1 p4.2) else none) else
  J0 k false p1.2))
theorem snd {k : Nat} {x0 : (List UInt8)} {S : HS}  {p : (Bool) × HS} (h : f k x0 S = some p) : HCall Tryd.prog base W0 β0 25 [(.str x0)] S (fun v S1 => v = (.bool p.1) ∧ S1 = p.2) := by
  unfold f at h
  refine HCall.of_run at_.at_ body ?_
  show HRun Tryd.prog base W0 β0 25 none [.code c0] ⟨[(.str x0), τ, τ, τ, τ, τ, τ, τ, τ, τ], []⟩ S _
  refine q_seq rfl ?_
  refine q_region rfl rfl ?_
  refine qS 2 rfl (ok_assign · (.bool _)) ?_
  refine hr_region_end ?_
  try dsimp only [w0, w1, w2, w3]
  refine q_seq rfl ?_
  refine q_region rfl rfl ?_
  refine qS 3 rfl (ok_move · (.tmp rfl)) ?_
  obtain ⟨p1, hp1, h⟩ := bindo h
  refine q_call (dst := some 4) rfl (.func _) (.cons (.tmp rfl) (.cons (.int _ _) (.cons (.int _ _) (.cons (.int _ _) Evs.nil)))) (HInv.static valid_all.at_ valid_all.body (valid_all.snd  hp1)) ?_
  rintro _ _ ⟨rfl, rfl⟩
  refine qS 5 rfl (ok_move · (.tmp rfl)) ?_
  rcases ifc h with ⟨hc2, h⟩ | ⟨hc2, h⟩
  · refine qG 5 6 rfl hc2 (ok_move · (.tmp rfl)) ?_
    try dsimp only [w0, w1, w2, w3]
    obtain ⟨hg3, h⟩ := gd h
    refine qG 5 7 rfl hc2 (ok_slice_str (kl := .i64) (kh := .i64) (l := 0) (h := 1) · tu9 (.tmp rfl) (.inl ⟨rfl, rfl⟩) (.inr ⟨_, rfl, (.int _ _)⟩) hg3.1 hg3.2.1 hg3.2.2) ?_
    obtain ⟨p4, hp4, h⟩ := bindo h
    refine q_call_g (t := 5) (dst := some 8) rfl rfl rfl hc2 (.func _) (.cons (.tmp rfl) (.cons (.int _ _) (.cons (.int _ _) (.cons (.int _ _) Evs.nil)))) (HInv.static valid_all.at_ valid_all.body (valid_all.snd  hp4)) ?_
    rintro _ _ ⟨rfl, rfl⟩
    refine qS 9 rfl (ok_pick_tt · (.tmp rfl) hc2 (.tmp rfl)) ?_
    try dsimp only [w0, w1, w2, w3]
    exact J0_snd  h
  · refine q_skip (dst := some 6) (t := 5) rfl rfl rfl (bfalse hc2) ?_
    try dsimp only [w0, w1, w2, w3]
    refine q_skip (dst := some 7) (t := 5) rfl rfl rfl (bfalse hc2) ?_
    refine q_skip (dst := some 8) (t := 5) rfl rfl rfl (bfalse hc2) ?_
    refine qS 9 rfl (ok_pick_ff · (.tmp rfl) (bfalse hc2) (.bool _)) ?_
    try dsimp only [w0, w1, w2, w3]
    exact J0_snd  h
end
end valid_Nick
namespace wish_Monitor
theorem at_ : FnAt Tryd.prog 7 Tryd.f7 := ⟨Tryd.func7, by kernel_rfl⟩
noncomputable def d0 := (Tryd.f7.body).getD .skip
noncomputable def r1 := kR (kA d0)
noncomputable def r5 := kR (kA (kA (kA (kB d0))))
noncomputable def r8 := kR (kA (kA (kB (kA (kA (kB d0))))))
noncomputable def d11 := kB (kA (kB d0))
noncomputable def r12 := kR (kA d11)
noncomputable def r15 := kR (kA (kA (kB d11)))
noncomputable def r18 := kR (kA (kA (kB (kA (kB d11)))))
noncomputable def r22 := kR (kA (kB (kB d11)))
noncomputable def d23 := kB (kB (kB d11))
noncomputable def r27 := kR (kA (kA (kB d23)))
noncomputable def d28 := kB (kA (kB d23))
noncomputable def r31 := kR (kA (kA (kA d28)))
noncomputable def d32 := kB (kA (kA d28))
noncomputable def r39 := kR (kA (kA (kA (kB d32))))
noncomputable def r42 := kR (kA (kA (kB (kA (kA (kB d32))))))
noncomputable def r46 := kR (kB (kB (kA (kA (kB d32)))))
noncomputable def r47 := kR (kB (kB d32))
noncomputable def r49 := kR (kA (kB (kB d23)))
noncomputable def c48 : Code := .seq (.region 13 r49 false) .ret
noncomputable def c47 : Code := .region 12 r47 false
noncomputable def c30 : Code := .seq (.region 8 r31 false) (.seq (.cond (.tmp 33) .skip (.exit 0)) (.seq (.block 1 (.seq (.region 9 r39 false) (.seq (.seq (.region 10 r42 false) (.cond (.tmp 38) (.exit 1) .skip)) (.region 11 r46 false)))) c47))
noncomputable def c21 : Code := .seq (.region 6 r22 false) (.seq (.label 0) (.seq (.seq (.region 7 r27 false) (.block 0 (.loop c30))) c48))
noncomputable def c16 : Code := .cond (.tmp 25) (.seq (.region 5 r18 false) .ret) .skip
noncomputable def c3 : Code := .seq (.seq (.region 1 r5 false) (.cond (.tmp 10) (.seq (.region 2 r8 false) .ret) .skip)) (.seq (.region 3 r12 false) (.seq (.seq (.region 4 r15 false) c16) c21))
noncomputable def c0 : Code := .seq (.region 0 r1 false) (.scope c3)
theorem body : Tryd.f7.body = some c0 := by kernel_rfl
section
variable {base : Nat} {W0 : World} {β0 : Bt}
def J3 (k : Nat) (rec0 : Int → Sl → Sl → Int → Int → HS → Option ((Int × Sl) × HS)) (y4 : Int) (y5 : Sl) (y30 : Sl) (y31 : Int) (y32 : Int) (S : HS) : Option ((Int × Sl) × HS) :=
  rec0 y4 y5 y30 y31 (w64 (y32 + 1)) S
theorem J3_snd {k : Nat} {rec0 : Int → Sl → Sl → Int → Int → HS → Option ((Int × Sl) × HS)} (hrec0 : ∀ ⦃y4 : Int⦄ ⦃y5 : Sl⦄ ⦃y30 : Sl⦄ ⦃y31 : Int⦄ ⦃y32 : Int⦄ ⦃S : HS⦄ ⦃p : (Int × Sl) × HS⦄ ⦃g0 g1 g2 g3 g6 g7 g8 g9 g10 g11 g12 g13 g14 g15 g16 g17 g18 g19 g20 g21 g22 g23 g24 g25 g26 g27 g28 g29 g33 g34 g35 g36 g37 g38 g39 g40 g41 g42 g43 g44 g45 : HV⦄, rec0 y4 y5 y30 y31 y32 S = some p → HRun Tryd.prog base W0 β0 7 none [.inLoop c30, .inBlock 0, .code c48, .inScope c3] ⟨[g0, g1, g2, g3, (.int .u8 y4), (Sl.hv y5), g6, g7, g8, g9, g10, g11, g12, g13, g14, g15, g16, g17, g18, g19, g20, g21, g22, g23, g24, g25, g26, g27, g28, g29, (Sl.hv y30), (.int .i64 y31), (.int .i64 y32), g33, g34, g35, g36, g37, g38, g39, g40, g41, g42, g43, g44, g45], []⟩ S (fun v S1 => v = (.tup [(.int .u8 p.1.1), (Sl.hv p.1.2)]) ∧ S1 = p.2)) {y4 : Int} {y5 : Sl} {y30 : Sl} {y31 : Int} {y32 : Int} {S : HS} {p : (Int × Sl) × HS} {g0 g1 g2 g3 g6 g7 g8 g9 g10 g11 g12 g13 g14 g15 g16 g17 g18 g19 g20 g21 g22 g23 g24 g25 g26 g27 g28 g29 g33 g34 g35 g36 g37 g38 g39 g40 g41 g42 g43 g44 g45 : HV} (h : J3 k rec0 y4 y5 y30 y31 y32 S = some p) : HRun Tryd.prog base W0 β0 7 none [.code c47, .inLoop c30, .inBlock 0, .code c48, .inScope c3] ⟨[g0, g1, g2, g3, (.int .u8 y4), (Sl.hv y5), g6, g7, g8, g9, g10, g11, g12, g13, g14, g15, g16, g17, g18, g19, g20, g21, g22, g23, g24, g25, g26, g27, g28, g29, (Sl.hv y30), (.int .i64 y31), (.int .i64 y32), g33, g34, g35, g36, g37, g38, g39, g40, g41, g42, g43, g44, g45], []⟩ S (fun v S1 => v = (.tup [(.int .u8 p.1.1), (Sl.hv p.1.2)]) ∧ S1 = p.2) := by
  unfold J3 at h
  refine q_region rfl rfl ?_
  refine qS 43 rfl (ok_ibin · (.tmp rfl) (.int _ _) rfl) ?_
  refine qS 32 rfl (ok_move · (.tmp rfl)) ?_
  refine hr_region_end ?_
  try dsimp only [w0, w1, w2, w3]
  try dsimp only [w0, w1, w2, w3]
  exact hrec0 h
def L2 (k : Nat) : Nat → Int → Sl → Sl → Int → Int → HS → Option ((Int × Sl) × HS)
  | 0, _, _, _, _, _, _ => none
  | n + 1, y4, y5, y30, y31, y32, S =>
    (if y32 < y31 then
    (Option.bind (HS.idx S y30 y32 1) fun p12 =>
    (Option.bind (HS.ldS S p12) fun p13 =>
    (Option.bind (valid_Nick.f k p13 S) fun p14 =>
    (if (!p14.1) = true then
    J3 k (L2 k n) y4 y5 y30 y31 y32 p14.2 else
    (letv (HS.lit p14.2 [[(.str p13)]] 1) fun p16 =>
    (Option.bind (HS.rows (p16.2) (p16.1) 1) fun p17 =>
    (Option.bind (HS.app (p16.2) y5 p17 1) fun p18 =>
    J3 k (L2 k n) y4 (p18.1) y30 y31 y32 (p18.2)))))))) else
    some ((y4, y5), S))
theorem L2_snd {k : Nat}  : ∀ {n : Nat} ⦃y4 : Int⦄ ⦃y5 : Sl⦄ ⦃y30 : Sl⦄ ⦃y31 : Int⦄ ⦃y32 : Int⦄ ⦃S : HS⦄ ⦃p : (Int × Sl) × HS⦄ ⦃g0 g1 g2 g3 g6 g7 g8 g9 g10 g11 g12 g13 g14 g15 g16 g17 g18 g19 g20 g21 g22 g23 g24 g25 g26 g27 g28 g29 g33 g34 g35 g36 g37 g38 g39 g40 g41 g42 g43 g44 g45 : HV⦄, L2 k n y4 y5 y30 y31 y32 S = some p → HRun Tryd.prog base W0 β0 7 none [.inLoop c30, .inBlock 0, .code c48, .inScope c3] ⟨[g0, g1, g2, g3, (.int .u8 y4), (Sl.hv y5), g6, g7, g8, g9, g10, g11, g12, g13, g14, g15, g16, g17, g18, g19, g20, g21, g22, g23, g24, g25, g26, g27, g28, g29, (Sl.hv y30), (.int .i64 y31), (.int .i64 y32), g33, g34, g35, g36, g37, g38, g39, g40, g41, g42, g43, g44, g45], []⟩ S (fun v S1 => v = (.tup [(.int .u8 p.1.1), (Sl.hv p.1.2)]) ∧ S1 = p.2) := by
  intro n
  induction n with
  | zero => intro _ _ _ _ _ _ _ _ _ _ _ _ _ _ _ _ _ _ _ _ _ _ _ _ _ _ _ _ _ _ _ _ _ _ _ _ _ _ _ _ _ _ _ _ _ _ _ _ h; cases h
  | succ n ih =>
    intro y4 y5 y30 y31 y32 S p g0 g1 g2 g3 g6 g7 g8 g9 g10 g11 g12 g13 g14 g15 g16 g17 g18 g19 g20 g21 g22 g23 g24 g25 g26 g27 g28 g29 g33 g34 g35 g36 g37 g38 g39 g40 g41 g42 g43 g44 g45 h
    simp only [L2] at h
    refine hr_inLoop ?_
    refine q_seq rfl ?_
    refine q_region rfl rfl ?_
    refine qS 33 rfl (ok_ibin · (.tmp rfl) (.tmp rfl) rfl) ?_
    refine hr_region_end ?_
    try dsimp only [w0, w1, w2, w3]
    refine q_seq rfl ?_
    rcases ifc h with ⟨hc11, h⟩ | ⟨hc11, h⟩
    · refine q_cond_t rfl (.tmp rfl) (decide_eq_true hc11) ?_
      refine q_skipc rfl ?_
      refine q_seq rfl ?_
      refine q_block rfl ?_
      refine q_seq rfl ?_
      refine q_region rfl rfl ?_
      obtain ⟨p12, hp12, h⟩ := bindo h
      refine qS 34 rfl (ok_indexAddr (s := y30) · tu22 sz9 (.tmp rfl) (.tmp rfl) hp12) ?_
      obtain ⟨p13, hp13, h⟩ := bindo h
      refine qS 35 rfl (ok_load_s · sc9 (.tmp rfl) rfl (ldS_out hp13)) ?_
      refine qS 7 rfl (ok_assign · (.tmp rfl)) ?_
      refine hr_region_end ?_
      try dsimp only [w0, w1, w2, w3]
      refine q_seq rfl ?_
      refine q_seq rfl ?_
      refine q_region rfl rfl ?_
      refine qS 36 rfl (ok_move · (.tmp rfl)) ?_
      obtain ⟨p14, hp14, h⟩ := bindo h
      refine q_call (dst := some 37) rfl (.func _) (.cons (.tmp rfl) Evs.nil) (HInv.static valid_Nick.at_ valid_Nick.body (valid_Nick.snd  hp14)) ?_
      rintro _ _ ⟨rfl, rfl⟩
      refine qS 38 rfl (ok_not · (.tmp rfl)) ?_
      refine hr_region_end ?_
      try dsimp only [w0, w1, w2, w3]
      rcases ifc h with ⟨hc15, h⟩ | ⟨hc15, h⟩
      · refine q_cond_t rfl (.tmp rfl) hc15 ?_
        refine q_exit rfl rfl ?_
        try dsimp only [w0, w1, w2, w3]
        exact J3_snd ih h
      · refine q_cond_f rfl (.tmp rfl) (bfalse hc15) ?_
        refine q_skipc rfl ?_
        refine q_region rfl rfl ?_
        refine qS 39 rfl (ok_move · (.tmp rfl)) ?_
        refine qS 40 rfl (ok_move · (.tmp rfl)) ?_
        obtain ⟨p16, hp16, h⟩ := leto h
        refine qS 41 rfl (ok_buildSlice_s (xs := [(.tmp 40)]) el22 · rfl rfl (by decide) (.cons (.tmp rfl) Evs.nil) rfl rfl hp16) ?_
        obtain ⟨p17, hp17, h⟩ := bindo h
        obtain ⟨p18, hp18, h⟩ := bindo h
        refine qS 42 rfl (ok_append (s := y5) (s1 := (p16.1)) el22 · rfl rfl ⟨_, tu22⟩ (.tmp rfl) (.tmp rfl) hp17 hp18) ?_
        try dsimp only [w0, w1, w2, w3]
        refine qS 5 rfl (ok_assign · (.tmp rfl)) ?_
        refine hr_region_end ?_
        try dsimp only [w0, w1, w2, w3]
        refine hr_inBlock ?_
        try dsimp only [w0, w1, w2, w3]
        exact J3_snd ih h
    · refine q_cond_f rfl (.tmp rfl) (decide_eq_false hc11) ?_
      refine q_exit rfl rfl ?_
      refine q_seq rfl ?_
      refine q_region rfl rfl ?_
      refine qS 44 rfl (ok_move · (.tmp rfl)) ?_
      refine qS 45 rfl (ok_move · (.tmp rfl)) ?_
      refine qS 2 rfl (ok_assign · (.tmp rfl)) ?_
      refine qS 3 rfl (ok_assign · (.tmp rfl)) ?_
      refine hr_region_end ?_
      try dsimp only [w0, w1, w2, w3]
      cases h
      exact q_ret rfl at_.at_ rfl (res2 rfl rfl rfl) ⟨rfl, rfl⟩
def J1 (k : Nat) (y0 : Sl) (y4 : Int) (y25 : Bool) (S : HS) : Option ((Int × Sl) × HS) :=
  (if y25 = true then
  some ((y4, Sl.nil), S) else
  (Option.bind (HS.idx S y0 1 1) fun p8 =>
  (Option.bind (HS.ldS S p8) fun p9 =>
  (Option.bind (strings_Split.f k p9 ([44] : List UInt8) S) fun p10 =>
  L2 k k y4 Sl.nil p10.1 (Sl.len p10.1 : Int) 0 p10.2))))
theorem J1_snd {k : Nat}  {y0 : Sl} {y4 : Int} {y25 : Bool} {S : HS} {p : (Int × Sl) × HS} {g1 g2 g3 g5 g6 g7 g8 g9 g10 g11 g12 g13 g14 g15 g16 g17 g18 g19 g20 g21 g22 g23 g24 g26 g27 g28 g29 g30 g31 g32 g33 g34 g35 g36 g37 g38 g39 g40 g41 g42 g43 g44 g45 : HV} (h : J1 k y0 y4 y25 S = some p) : HRun Tryd.prog base W0 β0 7 none [.code c16, .code c21, .inScope c3] ⟨[(Sl.hv y0), g1, g2, g3, (.int .u8 y4), g5, g6, g7, g8, g9, g10, g11, g12, g13, g14, g15, g16, g17, g18, g19, g20, g21, g22, g23, g24, (.bool y25), g26, g27, g28, g29, g30, g31, g32, g33, g34, g35, g36, g37, g38, g39, g40, g41, g42, g43, g44, g45], []⟩ S (fun v S1 => v = (.tup [(.int .u8 p.1.1), (Sl.hv p.1.2)]) ∧ S1 = p.2) := by
  unfold J1 at h
  rcases ifc h with ⟨hc7, h⟩ | ⟨hc7, h⟩
  · refine q_cond_t rfl (.tmp rfl) hc7 ?_
    refine q_seq rfl ?_
    refine q_region rfl rfl ?_
    refine qS 26 rfl (ok_move · (.tmp rfl)) ?_
    refine qS 2 rfl (ok_assign · (.tmp rfl)) ?_
    refine qS 3 rfl (ok_assign · (.const fun _ => .slNil none)) ?_
    refine hr_region_end ?_
    try dsimp only [w0, w1, w2, w3]
    cases h
    exact q_ret rfl at_.at_ rfl (res2 rfl rfl rfl) ⟨rfl, rfl⟩
  · refine q_cond_f rfl (.tmp rfl) (bfalse hc7) ?_
    refine q_skipc rfl ?_
    refine q_seq rfl ?_
    refine q_region rfl rfl ?_
    refine qS 5 rfl (ok_assign · (.const fun _ => .slNil none)) ?_
    refine hr_region_end ?_
    try dsimp only [w0, w1, w2, w3]
    refine q_seq rfl ?_
    refine q_label rfl ?_
    refine q_seq rfl ?_
    refine q_seq rfl ?_
    refine q_region rfl rfl ?_
    refine qS 27 rfl (ok_move · (.tmp rfl)) ?_
    obtain ⟨p8, hp8, h⟩ := bindo h
    refine qS 28 rfl (ok_indexAddr (s := y0) · tu22 sz9 (.tmp rfl) (.int _ _) hp8) ?_
    obtain ⟨p9, hp9, h⟩ := bindo h
    refine qS 29 rfl (ok_load_s · sc9 (.tmp rfl) rfl (ldS_out hp9)) ?_
    obtain ⟨p10, hp10, h⟩ := bindo h
    refine q_call (dst := some 30) rfl (.func _) (.cons (.tmp rfl) (.cons (.str _) Evs.nil)) (HInv.static strings_Split.at_ strings_Split.body (strings_Split.snd  hp10)) ?_
    rintro _ _ ⟨rfl, rfl⟩
    try dsimp only [w0, w1, w2, w3]
    refine qS 31 rfl (ok_len_sl (q := Sl.a p10.1) (n := Sl.len p10.1) (z := Sl.cap p10.1) · rfl tu22 (.tmp rfl)) ?_
    refine qS 32 rfl (ok_move · (.int _ _)) ?_
    refine hr_region_end ?_
    try dsimp only [w0, w1, w2, w3]
    refine q_block rfl ?_
    refine q_loop rfl ?_
    try dsimp only [w0, w1, w2, w3]
    exact L2_snd  h
def J0 (k : Nat) (y0 : Sl) (y4 : Int) (y20 : Bool) (S : HS) : Option ((Int × Sl) × HS) :=
  (if y20 = true then
  J1 k y0 y4 true S else
  J1 k y0 y4 (decide ((Sl.len y0 : Int) < 2)) S)
theorem J0_snd {k : Nat}  {y0 : Sl} {y4 : Int} {y20 : Bool} {S : HS} {p : (Int × Sl) × HS} {g1 g2 g3 g5 g6 g7 g8 g9 g10 g11 g12 g13 g14 g15 g16 g17 g18 g19 g21 g22 g23 g24 g25 g26 g27 g28 g29 g30 g31 g32 g33 g34 g35 g36 g37 g38 g39 g40 g41 g42 g43 g44 g45 : HV} (h : J0 k y0 y4 y20 S = some p) : HRun Tryd.prog base W0 β0 7 none [.inRegion r15 [6, 7, 8, 9, 10], .code c16, .code c21, .inScope c3] ⟨[(Sl.hv y0), g1, g2, g3, (.int .u8 y4), g5, g6, g7, g8, g9, g10, g11, g12, g13, g14, g15, g16, g17, g18, g19, (.bool y20), g21, g22, g23, g24, g25, g26, g27, g28, g29, g30, g31, g32, g33, g34, g35, g36, g37, g38, g39, g40, g41, g42, g43, g44, g45], []⟩ S (fun v S1 => v = (.tup [(.int .u8 p.1.1), (Sl.hv p.1.2)]) ∧ S1 = p.2) := by
  unfold J0 at h
  refine qS 21 rfl (ok_move · (.tmp rfl)) ?_
  rcases ifc h with ⟨hc6, h⟩ | ⟨hc6, h⟩
  · refine q_skip (dst := some 22) (t := 21) rfl rfl rfl hc6 ?_
    try dsimp only [w0, w1, w2, w3]
    refine q_skip (dst := some 23) (t := 21) rfl rfl rfl hc6 ?_
    refine q_skip (dst := some 24) (t := 21) rfl rfl rfl hc6 ?_
    refine qS 25 rfl (ok_pick_tt · (.tmp rfl) hc6 (.bool _)) ?_
    refine hr_region_end ?_
    try dsimp only [w0, w1, w2, w3]
    try dsimp only [w0, w1, w2, w3]
    exact J1_snd  h
  · refine qG 21 22 rfl (bfalse hc6) (ok_move · (.tmp rfl)) ?_
    try dsimp only [w0, w1, w2, w3]
    refine qG 21 23 rfl (bfalse hc6) (ok_len_sl (q := Sl.a y0) (n := Sl.len y0) (z := Sl.cap y0) · rfl tu22 (.tmp rfl)) ?_
    refine qG 21 24 rfl (bfalse hc6) (ok_ibin · (.tmp rfl) (.int _ _) rfl) ?_
    refine qS 25 rfl (ok_pick_ff · (.tmp rfl) (bfalse hc6) (.tmp rfl)) ?_
    refine hr_region_end ?_
    try dsimp only [w0, w1, w2, w3]
    try dsimp only [w0, w1, w2, w3]
    exact J1_snd  h
def f (k : Nat) (x0 : Sl) (S : HS) : Option ((Int × Sl) × HS) :=
  (if (Sl.len x0 : Int) = 0 then
  some ((0, Sl.nil), S) else
  (Option.bind (HS.idx S x0 0 1) fun p2 =>
  (Option.bind (HS.ldS S p2) fun p3 =>
  (Option.bind (wish_single.f k p3 ([43, 45] : List UInt8) S) fun p4 =>
  (if (!decide (p4.1 = 43)) = true then
  J0 k x0 p4.1 (!decide (p4.1 = 45)) p4.2 else
  J0 k x0 p4.1 false p4.2)))))
theorem snd {k : Nat} {x0 : Sl} {S : HS}  {p : (Int × Sl) × HS} (h : f k x0 S = some p) : HCall Tryd.prog base W0 β0 7 [(Sl.hv x0)] S (fun v S1 => v = (.tup [(.int .u8 p.1.1), (Sl.hv p.1.2)]) ∧ S1 = p.2) := by
  unfold f at h
  refine HCall.of_run at_.at_ body ?_
  show HRun Tryd.prog base W0 β0 7 none [.code c0] ⟨[(Sl.hv x0), τ, τ, τ, τ, τ, τ, τ, τ, τ, τ, τ, τ, τ, τ, τ, τ, τ, τ, τ, τ, τ, τ, τ, τ, τ, τ, τ, τ, τ, τ, τ, τ, τ, τ, τ, τ, τ, τ, τ, τ, τ, τ, τ, τ, τ], []⟩ S _
  refine q_seq rfl ?_
  refine q_region rfl rfl ?_
  refine qS 2 rfl (ok_assign · (.int _ _)) ?_
  refine qS 3 rfl (ok_assign · (.const fun _ => .slNil none)) ?_
  refine hr_region_end ?_
  try dsimp only [w0, w1, w2, w3]
  refine q_scope rfl ?_
  refine q_seq rfl ?_
  refine q_seq rfl ?_
  refine q_region rfl rfl ?_
  refine qS 8 rfl (ok_move · (.tmp rfl)) ?_
  refine qS 9 rfl (ok_len_sl (q := Sl.a x0) (n := Sl.len x0) (z := Sl.cap x0) · rfl tu22 (.tmp rfl)) ?_
  refine qS 10 rfl (ok_ibin · (.tmp rfl) (.int _ _) rfl) ?_
  refine hr_region_end ?_
  try dsimp only [w0, w1, w2, w3]
  rcases ifc h with ⟨hc1, h⟩ | ⟨hc1, h⟩
  · refine q_cond_t rfl (.tmp rfl) (decide_eq_true hc1) ?_
    refine q_seq rfl ?_
    refine q_region rfl rfl ?_
    refine qS 2 rfl (ok_assign · (.int _ _)) ?_
    refine qS 3 rfl (ok_assign · (.const fun _ => .slNil none)) ?_
    refine hr_region_end ?_
    try dsimp only [w0, w1, w2, w3]
    cases h
    exact q_ret rfl at_.at_ rfl (res2 rfl rfl rfl) ⟨rfl, rfl⟩
  · refine q_cond_f rfl (.tmp rfl) (decide_eq_false hc1) ?_
    refine q_skipc rfl ?_
    refine q_seq rfl ?_
    refine q_region rfl rfl ?_
    refine qS 11 rfl (ok_move · (.tmp rfl)) ?_
    obtain ⟨p2, hp2, h⟩ := bindo h
    refine qS 12 rfl (ok_indexAddr (s := x0) · tu22 sz9 (.tmp rfl) (.int _ _) hp2) ?_
    obtain ⟨p3, hp3, h⟩ := bindo h
    refine qS 13 rfl (ok_load_s · sc9 (.tmp rfl) rfl (ldS_out hp3)) ?_
    obtain ⟨p4, hp4, h⟩ := bindo h
    refine q_call (dst := some 14) rfl (.func _) (.cons (.tmp rfl) (.cons (.str _) Evs.nil)) (HInv.static wish_single.at_ wish_single.body (wish_single.snd  hp4)) ?_
    rintro _ _ ⟨rfl, rfl⟩
    try dsimp only [w0, w1, w2, w3]
    refine qS 4 rfl (ok_assign · (.tmp rfl)) ?_
    refine hr_region_end ?_
    try dsimp only [w0, w1, w2, w3]
    refine q_seq rfl ?_
    refine q_seq rfl ?_
    refine q_region rfl rfl ?_
    refine qS 15 rfl (ok_move · (.tmp rfl)) ?_
    refine qS 16 rfl (ok_ibin · (.tmp rfl) (.int _ _) rfl) ?_
    refine qS 17 rfl (ok_move · (.tmp rfl)) ?_
    rcases ifc h with ⟨hc5, h⟩ | ⟨hc5, h⟩
    · refine qG 17 18 rfl hc5 (ok_move · (.tmp rfl)) ?_
      try dsimp only [w0, w1, w2, w3]
      refine qG 17 19 rfl hc5 (ok_ibin · (.tmp rfl) (.int _ _) rfl) ?_
      refine qS 20 rfl (ok_pick_tt · (.tmp rfl) hc5 (.tmp rfl)) ?_
      try dsimp only [w0, w1, w2, w3]
      exact J0_snd  h
    · refine q_skip (dst := some 18) (t := 17) rfl rfl rfl (bfalse hc5) ?_
      try dsimp only [w0, w1, w2, w3]
      refine q_skip (dst := some 19) (t := 17) rfl rfl rfl (bfalse hc5) ?_
      refine qS 20 rfl (ok_pick_ff · (.tmp rfl) (bfalse hc5) (.bool _)) ?_
      try dsimp only [w0, w1, w2, w3]
      exact J0_snd  h
end
end wish_Monitor
namespace wish_Watch
theorem at_ : FnAt Tryd.prog 9 Tryd.f9 := ⟨Tryd.func9, by kernel_rfl⟩
noncomputable def d0 := (Tryd.f9.body).getD .skip
noncomputable def r1 := kR (kA d0)
noncomputable def r4 := kR (kA (kA (kB d0)))
noncomputable def r7 := kR (kA (kA (kB (kA (kB d0)))))
noncomputable def r11 := kR (kA (kB (kB d0)))
noncomputable def d12 := kB (kB (kB d0))
noncomputable def r14 := kR (kA (kA d12))
noncomputable def d16 := kA (kB (kA d12))
noncomputable def r18 := kR (kA (kA d16))
noncomputable def d23 := kB (kB (kA d16))
noncomputable def r26 := kR (kA (kA (kA d23)))
noncomputable def d27 := kB (kA (kA d23))
noncomputable def r28 := kR (kA d27)
noncomputable def r30 := kR (kA (kB d27))
noncomputable def r32 := kR (kA (kB (kB d27)))
noncomputable def r34 := kR (kA (kB (kB (kB d27))))
noncomputable def r36 := kR (kA (kB (kB (kB (kB d27)))))
noncomputable def r38 := kR (kB d23)
noncomputable def r40 := kR (kA (kB d12))
noncomputable def c39 : Code := .seq (.region 13 r40 false) .ret
noncomputable def c38 : Code := .region 12 r38 false
noncomputable def c35 : Code := .cond (.tmp 43) (.region 11 r36 true) .skip
noncomputable def c17 : Code := .seq (.region 5 r18 false) (.seq (.cond (.tmp 15) .skip (.exit 0)) (.seq (.block 1 (.seq (.region 6 r26 false) (.seq (.region 7 r28 false) (.seq (.region 8 r30 false) (.cond (.tmp 21) (.region 9 r32 false) (.seq (.region 10 r34 false) c35)))))) c38))
noncomputable def c0 : Code := .seq (.region 0 r1 false) (.seq (.seq (.region 1 r4 false) (.cond (.tmp 9) (.seq (.region 2 r7 false) .ret) .skip)) (.seq (.region 3 r11 false) (.seq (.seq (.region 4 r14 false) (.block 0 (.loop c17))) c39)))
theorem body : Tryd.f9.body = some c0 := by kernel_rfl
section
variable {base : Nat} {W0 : World} {β0 : Bt}
def J1 (k : Nat) (rec0 : Sl → Sl → Int → Int → HS → Option ((Sl) × HS)) (y3 : Sl) (y12 : Sl) (y13 : Int) (y14 : Int) (S : HS) : Option ((Sl) × HS) :=
  rec0 y3 y12 y13 (w64 (y14 + 1)) S
theorem J1_snd {k : Nat} {rec0 : Sl → Sl → Int → Int → HS → Option ((Sl) × HS)} (hrec0 : ∀ ⦃y3 : Sl⦄ ⦃y12 : Sl⦄ ⦃y13 : Int⦄ ⦃y14 : Int⦄ ⦃S : HS⦄ ⦃p : (Sl) × HS⦄ ⦃g0 g1 g2 g4 g5 g6 g7 g8 g9 g10 g11 g15 g16 g17 g18 g19 g20 g21 g22 g23 g24 g25 g26 g27 g28 g29 g30 g31 g32 g33 g34 g35 g36 g37 g38 g39 g40 g41 g42 g43 g44 g45 g46 g47 g48 g49 g50 g51 g52 g53 : HV⦄, rec0 y3 y12 y13 y14 S = some p → HRun Tryd.prog base W0 β0 9 none [.inLoop c17, .inBlock 0, .code c39] ⟨[g0, g1, g2, (Sl.hv y3), g4, g5, g6, g7, g8, g9, g10, g11, (Sl.hv y12), (.int .i64 y13), (.int .i64 y14), g15, g16, g17, g18, g19, g20, g21, g22, g23, g24, g25, g26, g27, g28, g29, g30, g31, g32, g33, g34, g35, g36, g37, g38, g39, g40, g41, g42, g43, g44, g45, g46, g47, g48, g49, g50, g51, g52, g53], []⟩ S (fun v S1 => v = (Sl.hv p.1) ∧ S1 = p.2)) {y3 : Sl} {y12 : Sl} {y13 : Int} {y14 : Int} {S : HS} {p : (Sl) × HS} {g0 g1 g2 g4 g5 g6 g7 g8 g9 g10 g11 g15 g16 g17 g18 g19 g20 g21 g22 g23 g24 g25 g26 g27 g28 g29 g30 g31 g32 g33 g34 g35 g36 g37 g38 g39 g40 g41 g42 g43 g44 g45 g46 g47 g48 g49 g50 g51 g52 g53 : HV} (h : J1 k rec0 y3 y12 y13 y14 S = some p) : HRun Tryd.prog base W0 β0 9 none [.code c38, .inLoop c17, .inBlock 0, .code c39] ⟨[g0, g1, g2, (Sl.hv y3), g4, g5, g6, g7, g8, g9, g10, g11, (Sl.hv y12), (.int .i64 y13), (.int .i64 y14), g15, g16, g17, g18, g19, g20, g21, g22, g23, g24, g25, g26, g27, g28, g29, g30, g31, g32, g33, g34, g35, g36, g37, g38, g39, g40, g41, g42, g43, g44, g45, g46, g47, g48, g49, g50, g51, g52, g53], []⟩ S (fun v S1 => v = (Sl.hv p.1) ∧ S1 = p.2) := by
  unfold J1 at h
  refine q_region rfl rfl ?_
  refine qS 52 rfl (ok_ibin · (.tmp rfl) (.int _ _) rfl) ?_
  refine qS 14 rfl (ok_move · (.tmp rfl)) ?_
  refine hr_region_end ?_
  try dsimp only [w0, w1, w2, w3]
  try dsimp only [w0, w1, w2, w3]
  exact hrec0 h
def J4 (k : Nat) (rec0 : Sl → Sl → Int → Int → HS → Option ((Sl) × HS)) (y3 : Sl) (y5 : (List UInt8)) (y12 : Sl) (y13 : Int) (y14 : Int) (y43 : Bool) (S : HS) : Option ((Sl) × HS) :=
  (if y43 = true then
  (Option.bind (sat y5 0) fun p19 =>
  (if 0 ≤ (1 : Int) ∧ (1 : Int) ≤ (List.length y5 : Int) ∧ ((List.length y5 : Int) : Int) ≤ (List.length y5 : Int) then
  (letv (HS.lit S [[(.int .u8 (UInt8.toNat p19 : Int)), (.str (ssub y5 1 (List.length y5 : Int)))]] 2) fun p21 =>
  (Option.bind (HS.rows (p21.2) (p21.1) 2) fun p22 =>
  (Option.bind (HS.app (p21.2) y3 p22 2) fun p23 =>
  J1 k rec0 (p23.1) y12 y13 y14 (p23.2)))) else none)) else
  J1 k rec0 y3 y12 y13 y14 S)
theorem J4_snd {k : Nat} {rec0 : Sl → Sl → Int → Int → HS → Option ((Sl) × HS)} (hrec0 : ∀ ⦃y3 : Sl⦄ ⦃y12 : Sl⦄ ⦃y13 : Int⦄ ⦃y14 : Int⦄ ⦃S : HS⦄ ⦃p : (Sl) × HS⦄ ⦃g0 g1 g2 g4 g5 g6 g7 g8 g9 g10 g11 g15 g16 g17 g18 g19 g20 g21 g22 g23 g24 g25 g26 g27 g28 g29 g30 g31 g32 g33 g34 g35 g36 g37 g38 g39 g40 g41 g42 g43 g44 g45 g46 g47 g48 g49 g50 g51 g52 g53 : HV⦄, rec0 y3 y12 y13 y14 S = some p → HRun Tryd.prog base W0 β0 9 none [.inLoop c17, .inBlock 0, .code c39] ⟨[g0, g1, g2, (Sl.hv y3), g4, g5, g6, g7, g8, g9, g10, g11, (Sl.hv y12), (.int .i64 y13), (.int .i64 y14), g15, g16, g17, g18, g19, g20, g21, g22, g23, g24, g25, g26, g27, g28, g29, g30, g31, g32, g33, g34, g35, g36, g37, g38, g39, g40, g41, g42, g43, g44, g45, g46, g47, g48, g49, g50, g51, g52, g53], []⟩ S (fun v S1 => v = (Sl.hv p.1) ∧ S1 = p.2)) {y3 : Sl} {y5 : (List UInt8)} {y12 : Sl} {y13 : Int} {y14 : Int} {y43 : Bool} {S : HS} {p : (Sl) × HS} {g0 g1 g2 g4 g6 g7 g8 g9 g10 g11 g15 g16 g17 g18 g19 g20 g21 g22 g23 g24 g25 g26 g27 g28 g29 g30 g31 g32 g33 g34 g35 g36 g37 g38 g39 g40 g41 g42 g44 g45 g46 g47 g48 g49 g50 g51 g52 g53 : HV} (h : J4 k rec0 y3 y5 y12 y13 y14 y43 S = some p) : HRun Tryd.prog base W0 β0 9 none [.code c35, .inBlock 1, .code c38, .inLoop c17, .inBlock 0, .code c39] ⟨[g0, g1, g2, (Sl.hv y3), g4, (.str y5), g6, g7, g8, g9, g10, g11, (Sl.hv y12), (.int .i64 y13), (.int .i64 y14), g15, g16, g17, g18, g19, g20, g21, g22, g23, g24, g25, g26, g27, g28, g29, g30, g31, g32, g33, g34, g35, g36, g37, g38, g39, g40, g41, g42, (.bool y43), g44, g45, g46, g47, g48, g49, g50, g51, g52, g53], []⟩ S (fun v S1 => v = (Sl.hv p.1) ∧ S1 = p.2) := by
  unfold J4 at h
  rcases ifc h with ⟨hc18, h⟩ | ⟨hc18, h⟩
  · refine q_cond_t rfl (.tmp rfl) hc18 ?_
    refine x_start (cls := [0, 0, 0, 0, 0, 0, 2, 2, 0]) (rk := [0, 1, 2, 3, 4, 5, 6, 7, 8]) rfl (by kernel_rfl) ?_
    refine yf 44 [3] rfl (ok_move · (.tmp rfl)) ?_
    refine yf 45 [5] rfl (ok_move · (.tmp rfl)) ?_
    obtain ⟨p19, hp19, h⟩ := bindo h
    refine yf 46 [45] rfl (ok_index_s · tu9 (.tmp rfl) (.int _ _) hp19) ?_
    refine yf 47 [5] rfl (ok_move · (.tmp rfl)) ?_
    try dsimp only [w0, w1, w2, w3]
    obtain ⟨hg20, h⟩ := gd h
    refine yf 48 [47] rfl (ok_slice_str (kl := .i64) (kh := .i64) (l := 1) (h := (List.length y5 : Int)) · tu9 (.tmp rfl) (.inr ⟨_, rfl, (.int _ _)⟩) (.inl ⟨rfl, rfl⟩) hg20.1 hg20.2.1 hg20.2.2) ?_
    refine yf 49 [46, 48] rfl (ok_build (is := [0, 1]) (xs := [(.tmp 46), (.tmp 48)]) (r := [(.int .u8 (UInt8.toNat p19 : Int)), (.str (ssub y5 1 (List.length y5 : Int)))]) st30 · rfl rfl (.cons (.tmp rfl) (.cons (.tmp rfl) Evs.nil)) rfl) ?_
    obtain ⟨p21, hp21, h⟩ := leto h
    refine ye 50 [49] rfl (ok_buildSlice_s (xs := [(.tmp 49)]) el26 · rfl rfl (by decide) (.cons (.tmp rfl) Evs.nil) rfl rfl hp21) ?_
    obtain ⟨p22, hp22, h⟩ := bindo h
    obtain ⟨p23, hp23, h⟩ := bindo h
    refine ye 51 [44, 50] rfl (ok_append (s := y3) (s1 := (p21.1)) el26 · rfl rfl ⟨_, tu26⟩ (.tmp rfl) (.tmp rfl) hp22 hp23) ?_
    try dsimp only [w0, w1, w2, w3]
    refine yf 3 [51] rfl (ok_assign · (.tmp rfl)) ?_
    refine x_rest rfl ?_
    refine hr_region_end ?_
    try dsimp only [w0, w1, w2, w3]
    refine hr_inBlock ?_
    try dsimp only [w0, w1, w2, w3]
    exact J1_snd hrec0 h
  · refine q_cond_f rfl (.tmp rfl) (bfalse hc18) ?_
    refine q_skipc rfl ?_
    refine hr_inBlock ?_
    try dsimp only [w0, w1, w2, w3]
    exact J1_snd hrec0 h
def J3 (k : Nat) (rec0 : Sl → Sl → Int → Int → HS → Option ((Sl) × HS)) (y3 : Sl) (y5 : (List UInt8)) (y12 : Sl) (y13 : Int) (y14 : Int) (y38 : Bool) (S : HS) : Option ((Sl) × HS) :=
  (if y38 = true then
  (if 0 ≤ (1 : Int) ∧ (1 : Int) ≤ (List.length y5 : Int) ∧ ((List.length y5 : Int) : Int) ≤ (List.length y5 : Int) then
  (Option.bind (valid_Nick.f k (ssub y5 1 (List.length y5 : Int)) S) fun p17 =>
  J4 k rec0 y3 y5 y12 y13 y14 p17.1 p17.2) else none) else
  J4 k rec0 y3 y5 y12 y13 y14 false S)
theorem J3_snd {k : Nat} {rec0 : Sl → Sl → Int → Int → HS → Option ((Sl) × HS)} (hrec0 : ∀ ⦃y3 : Sl⦄ ⦃y12 : Sl⦄ ⦃y13 : Int⦄ ⦃y14 : Int⦄ ⦃S : HS⦄ ⦃p : (Sl) × HS⦄ ⦃g0 g1 g2 g4 g5 g6 g7 g8 g9 g10 g11 g15 g16 g17 g18 g19 g20 g21 g22 g23 g24 g25 g26 g27 g28 g29 g30 g31 g32 g33 g34 g35 g36 g37 g38 g39 g40 g41 g42 g43 g44 g45 g46 g47 g48 g49 g50 g51 g52 g53 : HV⦄, rec0 y3 y12 y13 y14 S = some p → HRun Tryd.prog base W0 β0 9 none [.inLoop c17, .inBlock 0, .code c39] ⟨[g0, g1, g2, (Sl.hv y3), g4, g5, g6, g7, g8, g9, g10, g11, (Sl.hv y12), (.int .i64 y13), (.int .i64 y14), g15, g16, g17, g18, g19, g20, g21, g22, g23, g24, g25, g26, g27, g28, g29, g30, g31, g32, g33, g34, g35, g36, g37, g38, g39, g40, g41, g42, g43, g44, g45, g46, g47, g48, g49, g50, g51, g52, g53], []⟩ S (fun v S1 => v = (Sl.hv p.1) ∧ S1 = p.2)) {y3 : Sl} {y5 : (List UInt8)} {y12 : Sl} {y13 : Int} {y14 : Int} {y38 : Bool} {S : HS} {p : (Sl) × HS} {g0 g1 g2 g4 g6 g7 g8 g9 g10 g11 g15 g16 g17 g18 g19 g20 g21 g22 g23 g24 g25 g26 g27 g28 g29 g30 g31 g32 g33 g34 g35 g36 g37 g39 g40 g41 g42 g43 g44 g45 g46 g47 g48 g49 g50 g51 g52 g53 : HV} (h : J3 k rec0 y3 y5 y12 y13 y14 y38 S = some p) : HRun Tryd.prog base W0 β0 9 none [.inRegion r34 [12, 13, 14, 15, 16], .code c35, .inBlock 1, .code c38, .inLoop c17, .inBlock 0, .code c39] ⟨[g0, g1, g2, (Sl.hv y3), g4, (.str y5), g6, g7, g8, g9, g10, g11, (Sl.hv y12), (.int .i64 y13), (.int .i64 y14), g15, g16, g17, g18, g19, g20, g21, g22, g23, g24, g25, g26, g27, g28, g29, g30, g31, g32, g33, g34, g35, g36, g37, (.bool y38), g39, g40, g41, g42, g43, g44, g45, g46, g47, g48, g49, g50, g51, g52, g53], []⟩ S (fun v S1 => v = (Sl.hv p.1) ∧ S1 = p.2) := by
  unfold J3 at h
  refine qS 39 rfl (ok_move · (.tmp rfl)) ?_
  rcases ifc h with ⟨hc15, h⟩ | ⟨hc15, h⟩
  · refine qG 39 40 rfl hc15 (ok_move · (.tmp rfl)) ?_
    obtain ⟨hg16, h⟩ := gd h
    refine qG 39 41 rfl hc15 (ok_slice_str (kl := .i64) (kh := .i64) (l := 1) (h := (List.length y5 : Int)) · tu9 (.tmp rfl) (.inr ⟨_, rfl, (.int _ _)⟩) (.inl ⟨rfl, rfl⟩) hg16.1 hg16.2.1 hg16.2.2) ?_
    obtain ⟨p17, hp17, h⟩ := bindo h
    refine q_call_g (t := 39) (dst := some 42) rfl rfl rfl hc15 (.func _) (.cons (.tmp rfl) Evs.nil) (HInv.static valid_Nick.at_ valid_Nick.body (valid_Nick.snd  hp17)) ?_
    rintro _ _ ⟨rfl, rfl⟩
    try dsimp only [w0, w1, w2, w3]
    refine qS 43 rfl (ok_pick_tt · (.tmp rfl) hc15 (.tmp rfl)) ?_
    refine hr_region_end ?_
    try dsimp only [w0, w1, w2, w3]
    try dsimp only [w0, w1, w2, w3]
    exact J4_snd hrec0 h
  · refine q_skip (dst := some 40) (t := 39) rfl rfl rfl (bfalse hc15) ?_
    refine q_skip (dst := some 41) (t := 39) rfl rfl rfl (bfalse hc15) ?_
    refine q_skip (dst := some 42) (t := 39) rfl rfl rfl (bfalse hc15) ?_
    try dsimp only [w0, w1, w2, w3]
    refine qS 43 rfl (ok_pick_ff · (.tmp rfl) (bfalse hc15) (.bool _)) ?_
    refine hr_region_end ?_
    try dsimp only [w0, w1, w2, w3]
    try dsimp only [w0, w1, w2, w3]
    exact J4_snd hrec0 h
def J2 (k : Nat) (rec0 : Sl → Sl → Int → Int → HS → Option ((Sl) × HS)) (y3 : Sl) (y5 : (List UInt8)) (y12 : Sl) (y13 : Int) (y14 : Int) (y29 : Bool) (y37 : Bool) (S : HS) : Option ((Sl) × HS) :=
  (if y29 = true then
  J3 k rec0 y3 y5 y12 y13 y14 y37 S else
  J3 k rec0 y3 y5 y12 y13 y14 false S)
theorem J2_snd {k : Nat} {rec0 : Sl → Sl → Int → Int → HS → Option ((Sl) × HS)} (hrec0 : ∀ ⦃y3 : Sl⦄ ⦃y12 : Sl⦄ ⦃y13 : Int⦄ ⦃y14 : Int⦄ ⦃S : HS⦄ ⦃p : (Sl) × HS⦄ ⦃g0 g1 g2 g4 g5 g6 g7 g8 g9 g10 g11 g15 g16 g17 g18 g19 g20 g21 g22 g23 g24 g25 g26 g27 g28 g29 g30 g31 g32 g33 g34 g35 g36 g37 g38 g39 g40 g41 g42 g43 g44 g45 g46 g47 g48 g49 g50 g51 g52 g53 : HV⦄, rec0 y3 y12 y13 y14 S = some p → HRun Tryd.prog base W0 β0 9 none [.inLoop c17, .inBlock 0, .code c39] ⟨[g0, g1, g2, (Sl.hv y3), g4, g5, g6, g7, g8, g9, g10, g11, (Sl.hv y12), (.int .i64 y13), (.int .i64 y14), g15, g16, g17, g18, g19, g20, g21, g22, g23, g24, g25, g26, g27, g28, g29, g30, g31, g32, g33, g34, g35, g36, g37, g38, g39, g40, g41, g42, g43, g44, g45, g46, g47, g48, g49, g50, g51, g52, g53], []⟩ S (fun v S1 => v = (Sl.hv p.1) ∧ S1 = p.2)) {y3 : Sl} {y5 : (List UInt8)} {y12 : Sl} {y13 : Int} {y14 : Int} {y29 : Bool} {y37 : Bool} {S : HS} {p : (Sl) × HS} {g0 g1 g2 g4 g6 g7 g8 g9 g10 g11 g15 g16 g17 g18 g19 g20 g21 g22 g23 g24 g25 g26 g27 g28 g30 g31 g32 g33 g34 g35 g36 g38 g39 g40 g41 g42 g43 g44 g45 g46 g47 g48 g49 g50 g51 g52 g53 : HV} (h : J2 k rec0 y3 y5 y12 y13 y14 y29 y37 S = some p) : HRun Tryd.prog base W0 β0 9 none [.inRegion r34 [11, 12, 13, 14, 15, 16], .code c35, .inBlock 1, .code c38, .inLoop c17, .inBlock 0, .code c39] ⟨[g0, g1, g2, (Sl.hv y3), g4, (.str y5), g6, g7, g8, g9, g10, g11, (Sl.hv y12), (.int .i64 y13), (.int .i64 y14), g15, g16, g17, g18, g19, g20, g21, g22, g23, g24, g25, g26, g27, g28, (.bool y29), g30, g31, g32, g33, g34, g35, g36, (.bool y37), g38, g39, g40, g41, g42, g43, g44, g45, g46, g47, g48, g49, g50, g51, g52, g53], []⟩ S (fun v S1 => v = (Sl.hv p.1) ∧ S1 = p.2) := by
  unfold J2 at h
  rcases ifc h with ⟨hc14, h⟩ | ⟨hc14, h⟩
  · refine qS 38 rfl (ok_pick_tt · (.tmp rfl) hc14 (.tmp rfl)) ?_
    try dsimp only [w0, w1, w2, w3]
    try dsimp only [w0, w1, w2, w3]
    exact J3_snd hrec0 h
  · refine qS 38 rfl (ok_pick_ff · (.tmp rfl) (bfalse hc14) (.bool _)) ?_
    try dsimp only [w0, w1, w2, w3]
    try dsimp only [w0, w1, w2, w3]
    exact J3_snd hrec0 h
def L0 (k : Nat) : Nat → Sl → Sl → Int → Int → HS → Option ((Sl) × HS)
  | 0, _, _, _, _, _ => none
  | n + 1, y3, y12, y13, y14, S =>
    (if y14 < y13 then
    (Option.bind (HS.idx S y12 y14 1) fun p4 =>
    (Option.bind (HS.ldS S p4) fun p5 =>
    (Option.bind (wish_single.f k p5 ([] : List UInt8) S) fun p6 =>
    (if (!decide (p6.1 = 0)) = true then
    (letv (HS.lit p6.2 [[(.int .u8 p6.1), (.str [])]] 2) fun p8 =>
    (Option.bind (HS.rows (p8.2) (p8.1) 2) fun p9 =>
    (Option.bind (HS.app (p8.2) y3 p9 2) fun p10 =>
    J1 k (L0 k n) (p10.1) y12 y13 y14 (p10.2)))) else
    (if (!decide (p5 = ([] : List UInt8))) = true then
    (Option.bind (sat p5 0) fun p12 =>
    (if (UInt8.toNat p12 : Int) = 43 then
    J2 k (L0 k n) y3 p5 y12 y13 y14 (!decide (p5 = ([] : List UInt8))) true p6.2 else
    (Option.bind (sat p5 0) fun p24 =>
    J2 k (L0 k n) y3 p5 y12 y13 y14 (!decide (p5 = ([] : List UInt8))) (decide ((UInt8.toNat p24 : Int) = 45)) p6.2))) else
    J3 k (L0 k n) y3 p5 y12 y13 y14 false p6.2))))) else
    some (y3, S))
theorem L0_snd {k : Nat}  : ∀ {n : Nat} ⦃y3 : Sl⦄ ⦃y12 : Sl⦄ ⦃y13 : Int⦄ ⦃y14 : Int⦄ ⦃S : HS⦄ ⦃p : (Sl) × HS⦄ ⦃g0 g1 g2 g4 g5 g6 g7 g8 g9 g10 g11 g15 g16 g17 g18 g19 g20 g21 g22 g23 g24 g25 g26 g27 g28 g29 g30 g31 g32 g33 g34 g35 g36 g37 g38 g39 g40 g41 g42 g43 g44 g45 g46 g47 g48 g49 g50 g51 g52 g53 : HV⦄, L0 k n y3 y12 y13 y14 S = some p → HRun Tryd.prog base W0 β0 9 none [.inLoop c17, .inBlock 0, .code c39] ⟨[g0, g1, g2, (Sl.hv y3), g4, g5, g6, g7, g8, g9, g10, g11, (Sl.hv y12), (.int .i64 y13), (.int .i64 y14), g15, g16, g17, g18, g19, g20, g21, g22, g23, g24, g25, g26, g27, g28, g29, g30, g31, g32, g33, g34, g35, g36, g37, g38, g39, g40, g41, g42, g43, g44, g45, g46, g47, g48, g49, g50, g51, g52, g53], []⟩ S (fun v S1 => v = (Sl.hv p.1) ∧ S1 = p.2) := by
  intro n
  induction n with
  | zero => intro _ _ _ _ _ _ _ _ _ _ _ _ _ _ _ _ _ _ _ _ _ _ _ _ _ _ _ _ _ _ _ _ _ _ _ _ _ _ _ _ _ _ _ _ _ _ _ _ _ _ _ _ _ _ _ _ h; cases h
  | succ n ih =>
    intro y3 y12 y13 y14 S p g0 g1 g2 g4 g5 g6 g7 g8 g9 g10 g11 g15 g16 g17 g18 g19 g20 g21 g22 g23 g24 g25 g26 g27 g28 g29 g30 g31 g32 g33 g34 g35 g36 g37 g38 g39 g40 g41 g42 g43 g44 g45 g46 g47 g48 g49 g50 g51 g52 g53 h
    simp only [L0] at h
    refine hr_inLoop ?_
    refine q_seq rfl ?_
    refine q_region rfl rfl ?_
    refine qS 15 rfl (ok_ibin · (.tmp rfl) (.tmp rfl) rfl) ?_
    refine hr_region_end ?_
    try dsimp only [w0, w1, w2, w3]
    refine q_seq rfl ?_
    rcases ifc h with ⟨hc3, h⟩ | ⟨hc3, h⟩
    · refine q_cond_t rfl (.tmp rfl) (decide_eq_true hc3) ?_
      refine q_skipc rfl ?_
      refine q_seq rfl ?_
      refine q_block rfl ?_
      refine q_seq rfl ?_
      refine q_region rfl rfl ?_
      obtain ⟨p4, hp4, h⟩ := bindo h
      refine qS 16 rfl (ok_indexAddr (s := y12) · tu22 sz9 (.tmp rfl) (.tmp rfl) hp4) ?_
      obtain ⟨p5, hp5, h⟩ := bindo h
      refine qS 17 rfl (ok_load_s · sc9 (.tmp rfl) rfl (ldS_out hp5)) ?_
      refine qS 5 rfl (ok_assign · (.tmp rfl)) ?_
      refine hr_region_end ?_
      try dsimp only [w0, w1, w2, w3]
      refine q_seq rfl ?_
      refine q_region rfl rfl ?_
      refine qS 18 rfl (ok_move · (.tmp rfl)) ?_
      obtain ⟨p6, hp6, h⟩ := bindo h
      refine q_call (dst := some 19) rfl (.func _) (.cons (.tmp rfl) (.cons (.str _) Evs.nil)) (HInv.static wish_single.at_ wish_single.body (wish_single.snd  hp6)) ?_
      rintro _ _ ⟨rfl, rfl⟩
      refine qS 6 rfl (ok_assign · (.tmp rfl)) ?_
      refine hr_region_end ?_
      try dsimp only [w0, w1, w2, w3]
      refine q_seq rfl ?_
      refine q_region rfl rfl ?_
      refine qS 20 rfl (ok_move · (.tmp rfl)) ?_
      refine qS 21 rfl (ok_ibin · (.tmp rfl) (.int _ _) rfl) ?_
      refine hr_region_end ?_
      try dsimp only [w0, w1, w2, w3]
      rcases ifc h with ⟨hc7, h⟩ | ⟨hc7, h⟩
      · refine q_cond_t rfl (.tmp rfl) hc7 ?_
        refine q_region rfl rfl ?_
        refine qS 22 rfl (ok_move · (.tmp rfl)) ?_
        refine qS 23 rfl (ok_move · (.tmp rfl)) ?_
        refine qS 24 rfl (ok_build (is := [0]) (xs := [(.tmp 23)]) (r := [(.int .u8 p6.1), (.str [])]) st30 · rfl rfl (.cons (.tmp rfl) Evs.nil) rfl) ?_
        obtain ⟨p8, hp8, h⟩ := leto h
        refine qS 25 rfl (ok_buildSlice_s (xs := [(.tmp 24)]) el26 · rfl rfl (by decide) (.cons (.tmp rfl) Evs.nil) rfl rfl hp8) ?_
        try dsimp only [w0, w1, w2, w3]
        obtain ⟨p9, hp9, h⟩ := bindo h
        obtain ⟨p10, hp10, h⟩ := bindo h
        refine qS 26 rfl (ok_append (s := y3) (s1 := (p8.1)) el26 · rfl rfl ⟨_, tu26⟩ (.tmp rfl) (.tmp rfl) hp9 hp10) ?_
        refine qS 3 rfl (ok_assign · (.tmp rfl)) ?_
        refine hr_region_end ?_
        try dsimp only [w0, w1, w2, w3]
        refine hr_inBlock ?_
        try dsimp only [w0, w1, w2, w3]
        exact J1_snd ih h
      · refine q_cond_f rfl (.tmp rfl) (bfalse hc7) ?_
        refine q_seq rfl ?_
        refine q_region rfl rfl ?_
        refine qS 27 rfl (ok_move · (.tmp rfl)) ?_
        refine qS 28 rfl (ok_sbin · (.tmp rfl) (.str _) rfl) ?_
        refine qS 29 rfl (ok_move · (.tmp rfl)) ?_
        rcases ifc h with ⟨hc11, h⟩ | ⟨hc11, h⟩
        · refine qG 29 30 rfl hc11 (ok_move · (.tmp rfl)) ?_
          try dsimp only [w0, w1, w2, w3]
          obtain ⟨p12, hp12, h⟩ := bindo h
          refine qG 29 31 rfl hc11 (ok_index_s · tu9 (.tmp rfl) (.int _ _) hp12) ?_
          refine qG 29 32 rfl hc11 (ok_ibin · (.tmp rfl) (.int _ _) rfl) ?_
          refine qG 29 33 rfl hc11 (ok_move · (.tmp rfl)) ?_
          rcases ifc h with ⟨hc13, h⟩ | ⟨hc13, h⟩
          · refine q_skip (dst := some 34) (t := 33) rfl rfl rfl (decide_eq_true hc13) ?_
            try dsimp only [w0, w1, w2, w3]
            refine q_skip (dst := some 35) (t := 33) rfl rfl rfl (decide_eq_true hc13) ?_
            refine q_skip (dst := some 36) (t := 33) rfl rfl rfl (decide_eq_true hc13) ?_
            refine qG 29 37 rfl hc11 (ok_pick_tt · (.tmp rfl) (decide_eq_true hc13) (.bool _)) ?_
            try dsimp only [w0, w1, w2, w3]
            exact J2_snd ih h
          · refine qG 33 34 rfl (decide_eq_false hc13) (ok_move · (.tmp rfl)) ?_
            try dsimp only [w0, w1, w2, w3]
            obtain ⟨p24, hp24, h⟩ := bindo h
            refine qG 33 35 rfl (decide_eq_false hc13) (ok_index_s · tu9 (.tmp rfl) (.int _ _) hp24) ?_
            refine qG 33 36 rfl (decide_eq_false hc13) (ok_ibin · (.tmp rfl) (.int _ _) rfl) ?_
            refine qG 29 37 rfl hc11 (ok_pick_ff · (.tmp rfl) (decide_eq_false hc13) (.tmp rfl)) ?_
            try dsimp only [w0, w1, w2, w3]
            exact J2_snd ih h
        · refine q_skip (dst := some 30) (t := 29) rfl rfl rfl (bfalse hc11) ?_
          try dsimp only [w0, w1, w2, w3]
          refine q_skip (dst := some 31) (t := 29) rfl rfl rfl (bfalse hc11) ?_
          refine q_skip (dst := some 32) (t := 29) rfl rfl rfl (bfalse hc11) ?_
          refine q_skip (dst := some 33) (t := 29) rfl rfl rfl (bfalse hc11) ?_
          refine q_skip_u (dst := some 34) (t := 33) rfl rfl rfl ?_
          try dsimp only [w0, w1, w2, w3]
          refine q_skip_u (dst := some 35) (t := 33) rfl rfl rfl ?_
          refine q_skip_u (dst := some 36) (t := 33) rfl rfl rfl ?_
          refine q_skip (dst := some 37) (t := 29) rfl rfl rfl (bfalse hc11) ?_
          refine qS 38 rfl (ok_pick_ff · (.tmp rfl) (bfalse hc11) (.bool _)) ?_
          try dsimp only [w0, w1, w2, w3]
          try dsimp only [w0, w1, w2, w3]
          exact J3_snd ih h
    · refine q_cond_f rfl (.tmp rfl) (decide_eq_false hc3) ?_
      refine q_exit rfl rfl ?_
      refine q_seq rfl ?_
      refine q_region rfl rfl ?_
      refine qS 53 rfl (ok_move · (.tmp rfl)) ?_
      refine qS 2 rfl (ok_assign · (.tmp rfl)) ?_
      refine hr_region_end ?_
      try dsimp only [w0, w1, w2, w3]
      cases h
      exact q_ret rfl at_.at_ rfl (res1 rfl rfl) ⟨rfl, rfl⟩
def f (k : Nat) (x0 : Sl) (S : HS) : Option ((Sl) × HS) :=
  (if (Sl.len x0 : Int) = 0 then
  (letv (HS.lit S [[(.int .u8 76), (.str [])]] 2) fun p2 =>
  some ((p2.1), (p2.2))) else
  L0 k k Sl.nil x0 (Sl.len x0 : Int) 0 S)
theorem snd {k : Nat} {x0 : Sl} {S : HS}  {p : (Sl) × HS} (h : f k x0 S = some p) : HCall Tryd.prog base W0 β0 9 [(Sl.hv x0)] S (fun v S1 => v = (Sl.hv p.1) ∧ S1 = p.2) := by
  unfold f at h
  refine HCall.of_run at_.at_ body ?_
  show HRun Tryd.prog base W0 β0 9 none [.code c0] ⟨[(Sl.hv x0), τ, τ, τ, τ, τ, τ, τ, τ, τ, τ, τ, τ, τ, τ, τ, τ, τ, τ, τ, τ, τ, τ, τ, τ, τ, τ, τ, τ, τ, τ, τ, τ, τ, τ, τ, τ, τ, τ, τ, τ, τ, τ, τ, τ, τ, τ, τ, τ, τ, τ, τ, τ, τ], []⟩ S _
  refine q_seq rfl ?_
  refine q_region rfl rfl ?_
  refine qS 2 rfl (ok_assign · (.const fun _ => .slNil none)) ?_
  refine hr_region_end ?_
  try dsimp only [w0, w1, w2, w3]
  refine q_seq rfl ?_
  refine q_seq rfl ?_
  refine q_region rfl rfl ?_
  refine qS 7 rfl (ok_move · (.tmp rfl)) ?_
  refine qS 8 rfl (ok_len_sl (q := Sl.a x0) (n := Sl.len x0) (z := Sl.cap x0) · rfl tu22 (.tmp rfl)) ?_
  refine qS 9 rfl (ok_ibin · (.tmp rfl) (.int _ _) rfl) ?_
  refine hr_region_end ?_
  try dsimp only [w0, w1, w2, w3]
  rcases ifc h with ⟨hc1, h⟩ | ⟨hc1, h⟩
  · refine q_cond_t rfl (.tmp rfl) (decide_eq_true hc1) ?_
    refine q_seq rfl ?_
    refine q_region rfl rfl ?_
    refine qS 10 rfl (ok_build (is := [0]) (xs := [(.const (.int .u8 76))]) (r := [(.int .u8 76), (.str [])]) st30 · rfl rfl (.cons (.int _ _) Evs.nil) rfl) ?_
    obtain ⟨p2, hp2, h⟩ := leto h
    refine qS 11 rfl (ok_buildSlice_s (xs := [(.tmp 10)]) el26 · rfl rfl (by decide) (.cons (.tmp rfl) Evs.nil) rfl rfl hp2) ?_
    refine qS 2 rfl (ok_assign · (.tmp rfl)) ?_
    refine hr_region_end ?_
    try dsimp only [w0, w1, w2, w3]
    cases h
    exact q_ret rfl at_.at_ rfl (res1 rfl rfl) ⟨rfl, rfl⟩
  · refine q_cond_f rfl (.tmp rfl) (decide_eq_false hc1) ?_
    refine q_skipc rfl ?_
    refine q_seq rfl ?_
    refine q_region rfl rfl ?_
    refine qS 3 rfl (ok_assign · (.const fun _ => .slNil none)) ?_
    refine hr_region_end ?_
    try dsimp only [w0, w1, w2, w3]
    refine q_seq rfl ?_
    refine q_seq rfl ?_
    refine q_region rfl rfl ?_
    refine qS 12 rfl (ok_move · (.tmp rfl)) ?_
    refine qS 13 rfl (ok_len_sl (q := Sl.a x0) (n := Sl.len x0) (z := Sl.cap x0) · rfl tu22 (.tmp rfl)) ?_
    refine qS 14 rfl (ok_move · (.int _ _)) ?_
    refine hr_region_end ?_
    try dsimp only [w0, w1, w2, w3]
    refine q_block rfl ?_
    refine q_loop rfl ?_
    try dsimp only [w0, w1, w2, w3]
    exact L0_snd  h
end
end wish_Watch
namespace rollcallref01_Texts
theorem at_ : FnAt Tryd.prog 11 Tryd.f11 := ⟨Tryd.func11, by kernel_rfl⟩
noncomputable def d0 := (Tryd.f11.body).getD .skip
noncomputable def r1 := kR (kA d0)
noncomputable def r4 := kR (kA (kA (kB d0)))
noncomputable def r7 := kR (kA (kA (kB (kA (kB d0)))))
noncomputable def d11 := kA (kB (kB d0))
noncomputable def r12 := kR (kA d11)
noncomputable def d15 := kA (kA (kB d11))
noncomputable def r17 := kR (kA (kA d15))
noncomputable def r24 := kR (kA (kA (kA (kB d15))))
noncomputable def r27 := kR (kA (kA (kB (kA (kA (kB d15))))))
noncomputable def r30 := kR (kB (kB d15))
noncomputable def r32 := kR (kA (kB (kB (kB d0))))
noncomputable def c31 : Code := .seq (.region 8 r32 false) .ret
noncomputable def c15 : Code := .seq (.seq (.region 4 r17 false) (.cond (.tmp 14) .skip (.exit 0))) (.seq (.block 1 (.seq (.region 6 r24 true) (.cond (.tmp 25) (.seq (.region 7 r27 false) .ret) .skip))) (.region 5 r30 false))
noncomputable def c0 : Code := .seq (.region 0 r1 false) (.seq (.seq (.region 1 r4 false) (.cond (.tmp 10) (.seq (.region 2 r7 false) .ret) .skip)) (.seq (.seq (.region 3 r12 false) (.block 0 (.loop c15))) c31))
theorem body : Tryd.f11.body = some c0 := by kernel_rfl
section
variable {base : Nat} {W0 : World} {β0 : Bt}
def L0 (k : Nat) : Nat → Sl → Sl → Int → HS → Option ((Bool) × HS)
  | 0, _, _, _, _ => none
  | n + 1, y0, y1, y5, S =>
    (if y5 < (Sl.len y0 : Int) then
    (Option.bind (HS.idx S y0 y5 1) fun p3 =>
    (Option.bind (HS.ldS S p3) fun p4 =>
    (Option.bind (HS.idx S y1 y5 1) fun p5 =>
    (Option.bind (HS.ldS S p5) fun p6 =>
    (if (!decide (p4 = p6)) = true then
    some (false, S) else
    (L0 k n) y0 y1 (w64 (y5 + 1)) S))))) else
    some (true, S))
theorem L0_snd {k : Nat}  : ∀ {n : Nat} ⦃y0 : Sl⦄ ⦃y1 : Sl⦄ ⦃y5 : Int⦄ ⦃S : HS⦄ ⦃p : (Bool) × HS⦄ ⦃g2 g3 g4 g6 g7 g8 g9 g10 g11 g12 g13 g14 g15 g16 g17 g18 g19 g20 g21 g22 g23 g24 g25 : HV⦄, L0 k n y0 y1 y5 S = some p → HRun Tryd.prog base W0 β0 11 none [.inLoop c15, .inBlock 0, .code c31] ⟨[(Sl.hv y0), (Sl.hv y1), g2, g3, g4, (.int .i64 y5), g6, g7, g8, g9, g10, g11, g12, g13, g14, g15, g16, g17, g18, g19, g20, g21, g22, g23, g24, g25], []⟩ S (fun v S1 => v = (.bool p.1) ∧ S1 = p.2) := by
  intro n
  induction n with
  | zero => intro _ _ _ _ _ _ _ _ _ _ _ _ _ _ _ _ _ _ _ _ _ _ _ _ _ _ _ _ h; cases h
  | succ n ih =>
    intro y0 y1 y5 S p g2 g3 g4 g6 g7 g8 g9 g10 g11 g12 g13 g14 g15 g16 g17 g18 g19 g20 g21 g22 g23 g24 g25 h
    simp only [L0] at h
    refine hr_inLoop ?_
    refine q_seq rfl ?_
    refine q_seq rfl ?_
    refine q_region rfl rfl ?_
    refine qS 11 rfl (ok_move · (.tmp rfl)) ?_
    refine qS 12 rfl (ok_move · (.tmp rfl)) ?_
    refine qS 13 rfl (ok_len_sl (q := Sl.a y0) (n := Sl.len y0) (z := Sl.cap y0) · rfl tu22 (.tmp rfl)) ?_
    refine qS 14 rfl (ok_ibin · (.tmp rfl) (.tmp rfl) rfl) ?_
    refine hr_region_end ?_
    try dsimp only [w0, w1, w2, w3]
    rcases ifc h with ⟨hc2, h⟩ | ⟨hc2, h⟩
    · refine q_cond_t rfl (.tmp rfl) (decide_eq_true hc2) ?_
      refine q_skipc rfl ?_
      refine q_seq rfl ?_
      refine q_block rfl ?_
      refine q_seq rfl ?_
      refine x_start (cls := [0, 0, 1, 1, 0, 0, 1, 1, 0]) (rk := [0, 1, 2, 3, 4, 5, 6, 7, 8]) rfl (by kernel_rfl) ?_
      refine yf 17 [0] rfl (ok_move · (.tmp rfl)) ?_
      refine yf 18 [5] rfl (ok_move · (.tmp rfl)) ?_
      obtain ⟨p3, hp3, h⟩ := bindo h
      refine yr 19 [17, 18] rfl (ok_indexAddr (s := y0) · tu22 sz9 (.tmp rfl) (.tmp rfl) hp3) ?_
      obtain ⟨p4, hp4, h⟩ := bindo h
      refine yr 20 [19] rfl (ok_load_s · sc9 (.tmp rfl) rfl (ldS_out hp4)) ?_
      try dsimp only [w0, w1, w2, w3]
      refine yf 21 [1] rfl (ok_move · (.tmp rfl)) ?_
      refine yf 22 [5] rfl (ok_move · (.tmp rfl)) ?_
      obtain ⟨p5, hp5, h⟩ := bindo h
      refine yr 23 [21, 22] rfl (ok_indexAddr (s := y1) · tu22 sz9 (.tmp rfl) (.tmp rfl) hp5) ?_
      obtain ⟨p6, hp6, h⟩ := bindo h
      refine yr 24 [23] rfl (ok_load_s · sc9 (.tmp rfl) rfl (ldS_out hp6)) ?_
      try dsimp only [w0, w1, w2, w3]
      refine yf 25 [20, 24] rfl (ok_sbin · (.tmp rfl) (.tmp rfl) rfl) ?_
      refine x_rest rfl ?_
      refine hr_region_end ?_
      try dsimp only [w0, w1, w2, w3]
      rcases ifc h with ⟨hc7, h⟩ | ⟨hc7, h⟩
      · refine q_cond_t rfl (.tmp rfl) hc7 ?_
        refine q_seq rfl ?_
        refine q_region rfl rfl ?_
        refine qS 4 rfl (ok_assign · (.bool _)) ?_
        refine hr_region_end ?_
        try dsimp only [w0, w1, w2, w3]
        cases h
        exact q_ret rfl at_.at_ rfl (res1 rfl rfl) ⟨rfl, rfl⟩
      · refine q_cond_f rfl (.tmp rfl) (bfalse hc7) ?_
        refine q_skipc rfl ?_
        refine hr_inBlock ?_
        refine q_region rfl rfl ?_
        refine qS 15 rfl (ok_move · (.tmp rfl)) ?_
        refine qS 16 rfl (ok_ibin · (.tmp rfl) (.int _ _) rfl) ?_
        refine qS 5 rfl (ok_assign · (.tmp rfl)) ?_
        refine hr_region_end ?_
        try dsimp only [w0, w1, w2, w3]
        try dsimp only [w0, w1, w2, w3]
        exact ih h
    · refine q_cond_f rfl (.tmp rfl) (decide_eq_false hc2) ?_
      refine q_exit rfl rfl ?_
      refine q_seq rfl ?_
      refine q_region rfl rfl ?_
      refine qS 4 rfl (ok_assign · (.bool _)) ?_
      refine hr_region_end ?_
      try dsimp only [w0, w1, w2, w3]
      cases h
      exact q_ret rfl at_.at_ rfl (res1 rfl rfl) ⟨rfl, rfl⟩
def f (k : Nat) (x0 : Sl) (x1 : Sl) (S : HS) : Option ((Bool) × HS) :=
  (if (!decide ((Sl.len x0 : Int) = (Sl.len x1 : Int))) = true then
  some (false, S) else
  L0 k k x0 x1 0 S)
theorem snd {k : Nat} {x0 : Sl} {x1 : Sl} {S : HS}  {p : (Bool) × HS} (h : f k x0 x1 S = some p) : HCall Tryd.prog base W0 β0 11 [(Sl.hv x0), (Sl.hv x1)] S (fun v S1 => v = (.bool p.1) ∧ S1 = p.2) := by
  unfold f at h
  refine HCall.of_run at_.at_ body ?_
  show HRun Tryd.prog base W0 β0 11 none [.code c0] ⟨[(Sl.hv x0), (Sl.hv x1), τ, τ, τ, τ, τ, τ, τ, τ, τ, τ, τ, τ, τ, τ, τ, τ, τ, τ, τ, τ, τ, τ, τ, τ], []⟩ S _
  refine q_seq rfl ?_
  refine q_region rfl rfl ?_
  refine qS 4 rfl (ok_assign · (.bool _)) ?_
  refine hr_region_end ?_
  try dsimp only [w0, w1, w2, w3]
  refine q_seq rfl ?_
  refine q_seq rfl ?_
  refine q_region rfl rfl ?_
  refine qS 6 rfl (ok_move · (.tmp rfl)) ?_
  refine qS 7 rfl (ok_len_sl (q := Sl.a x0) (n := Sl.len x0) (z := Sl.cap x0) · rfl tu22 (.tmp rfl)) ?_
  refine qS 8 rfl (ok_move · (.tmp rfl)) ?_
  refine qS 9 rfl (ok_len_sl (q := Sl.a x1) (n := Sl.len x1) (z := Sl.cap x1) · rfl tu22 (.tmp rfl)) ?_
  try dsimp only [w0, w1, w2, w3]
  refine qS 10 rfl (ok_ibin · (.tmp rfl) (.tmp rfl) rfl) ?_
  refine hr_region_end ?_
  try dsimp only [w0, w1, w2, w3]
  rcases ifc h with ⟨hc1, h⟩ | ⟨hc1, h⟩
  · refine q_cond_t rfl (.tmp rfl) hc1 ?_
    refine q_seq rfl ?_
    refine q_region rfl rfl ?_
    refine qS 4 rfl (ok_assign · (.bool _)) ?_
    refine hr_region_end ?_
    try dsimp only [w0, w1, w2, w3]
    cases h
    exact q_ret rfl at_.at_ rfl (res1 rfl rfl) ⟨rfl, rfl⟩
  · refine q_cond_f rfl (.tmp rfl) (bfalse hc1) ?_
    refine q_skipc rfl ?_
    refine q_seq rfl ?_
    refine q_seq rfl ?_
    refine q_region rfl rfl ?_
    refine qS 5 rfl (ok_assign · (.int _ _)) ?_
    refine hr_region_end ?_
    try dsimp only [w0, w1, w2, w3]
    refine q_block rfl ?_
    refine q_loop rfl ?_
    try dsimp only [w0, w1, w2, w3]
    exact L0_snd  h
end
end rollcallref01_Texts
namespace rollcalllaw21_awake
theorem at_ : FnAt Tryd.prog 6 Tryd.f6 := ⟨Tryd.func6, by kernel_rfl⟩
noncomputable def d0 := (Tryd.f6.body).getD .skip
noncomputable def r1 := kR (kA d0)
noncomputable def r3 := kR (kA (kB d0))
noncomputable def r5 := kR (kA (kB (kB d0)))
noncomputable def r7 := kR (kA (kB (kB (kB d0))))
noncomputable def c8 : Code := .ret
noncomputable def c0 : Code := .seq (.region 0 r1 false) (.seq (.region 1 r3 false) (.seq (.region 2 r5 false) (.seq (.region 3 r7 false) c8)))
theorem body : Tryd.f6.body = some c0 := by kernel_rfl
section
variable {base : Nat} {W0 : World} {β0 : Bt}
def J4 (k : Nat) (y43 : Bool) (S : HS) : Option ((Bool) × HS) :=
  some (y43, S)
theorem J4_snd {k : Nat}  {y43 : Bool} {S : HS} {p : (Bool) × HS} {g0 g1 g2 g3 g4 g5 g6 g7 g8 g9 g10 g11 g12 g13 g14 g15 g16 g17 g18 g19 g20 g21 g22 g23 g24 g25 g26 g27 g28 g29 g30 g31 g32 g33 g34 g35 g36 g37 g38 g39 g40 g41 g42 : HV} (h : J4 k y43 S = some p) : HRun Tryd.prog base W0 β0 6 none [.inRegion r7 [33], .code c8] ⟨[g0, g1, g2, g3, g4, g5, g6, g7, g8, g9, g10, g11, g12, g13, g14, g15, g16, g17, g18, g19, g20, g21, g22, g23, g24, g25, g26, g27, g28, g29, g30, g31, g32, g33, g34, g35, g36, g37, g38, g39, g40, g41, g42, (.bool y43)], []⟩ S (fun v S1 => v = (.bool p.1) ∧ S1 = p.2) := by
  unfold J4 at h
  refine qS 0 rfl (ok_assign · (.tmp rfl)) ?_
  refine hr_region_end ?_
  try dsimp only [w0, w1, w2, w3]
  cases h
  exact q_ret rfl at_.at_ rfl (res1 rfl rfl) ⟨rfl, rfl⟩
def J3 (k : Nat) (y3 : Sl) (y36 : Bool) (S : HS) : Option ((Bool) × HS) :=
  (if y36 = true then
  (Option.bind (HS.idx S y3 2 2) fun p20 =>
  (Option.bind (HS.ldI S .u8 (HA.fld p20 0)) fun p21 =>
  (Option.bind (HS.ldS S (HA.fld p20 1)) fun p22 =>
  (Option.bind (kSames [(.int .u8 p21), (.str p22)] [(.int .u8 67), (.str [])]) fun p23 =>
  J4 k (p23) S)))) else
  J4 k false S)
theorem J3_snd {k : Nat}  {y3 : Sl} {y36 : Bool} {S : HS} {p : (Bool) × HS} {g0 g1 g2 g4 g5 g6 g7 g8 g9 g10 g11 g12 g13 g14 g15 g16 g17 g18 g19 g20 g21 g22 g23 g24 g25 g26 g27 g28 g29 g30 g31 g32 g33 g34 g35 g37 g38 g39 g40 g41 g42 g43 : HV} (h : J3 k y3 y36 S = some p) : HRun Tryd.prog base W0 β0 6 none [.inRegion r7 [26, 27, 28, 29, 30, 31, 32, 33], .code c8] ⟨[g0, g1, g2, (Sl.hv y3), g4, g5, g6, g7, g8, g9, g10, g11, g12, g13, g14, g15, g16, g17, g18, g19, g20, g21, g22, g23, g24, g25, g26, g27, g28, g29, g30, g31, g32, g33, g34, g35, (.bool y36), g37, g38, g39, g40, g41, g42, g43], []⟩ S (fun v S1 => v = (.bool p.1) ∧ S1 = p.2) := by
  unfold J3 at h
  refine qS 37 rfl (ok_move · (.tmp rfl)) ?_
  rcases ifc h with ⟨hc19, h⟩ | ⟨hc19, h⟩
  · refine qG 37 38 rfl hc19 (ok_move · (.tmp rfl)) ?_
    try dsimp only [w0, w1, w2, w3]
    obtain ⟨p20, hp20, h⟩ := bindo h
    refine qG 37 39 rfl hc19 (ok_indexAddr (s := y3) · tu26 sz30 (.tmp rfl) (.int _ _) hp20) ?_
    obtain ⟨p21, hp21, h⟩ := bindo h
    obtain ⟨p22, hp22, h⟩ := bindo h
    refine qG 37 40 rfl hc19 (ok_load_a (vs := [(.int .u8 p21), (.str p22)]) · ia30 (.tmp rfl) rfl ⟨ldI_out hp21, ldS_out hp22, trivial⟩ (by simp)) ?_
    refine qG 37 41 rfl hc19 (ok_build (is := [0]) (xs := [(.const (.int .u8 67))]) (r := [(.int .u8 67), (.str [])]) st30 · rfl rfl (.cons (.int _ _) Evs.nil) rfl) ?_
    obtain ⟨p23, hp23, h⟩ := bindo h
    refine qG 37 42 rfl hc19 (ok_agg_eq · sk30 eg30 rfl (.tmp rfl) (.tmp rfl) hp23 (.inl ⟨rfl, rfl⟩)) ?_
    try dsimp only [w0, w1, w2, w3]
    refine qS 43 rfl (ok_pick_tt · (.tmp rfl) hc19 (.tmp rfl)) ?_
    try dsimp only [w0, w1, w2, w3]
    exact J4_snd  h
  · refine q_skip (dst := some 38) (t := 37) rfl rfl rfl (bfalse hc19) ?_
    try dsimp only [w0, w1, w2, w3]
    refine q_skip (dst := some 39) (t := 37) rfl rfl rfl (bfalse hc19) ?_
    refine q_skip (dst := some 40) (t := 37) rfl rfl rfl (bfalse hc19) ?_
    refine q_skip (dst := some 41) (t := 37) rfl rfl rfl (bfalse hc19) ?_
    refine q_skip (dst := some 42) (t := 37) rfl rfl rfl (bfalse hc19) ?_
    try dsimp only [w0, w1, w2, w3]
    refine qS 43 rfl (ok_pick_ff · (.tmp rfl) (bfalse hc19) (.bool _)) ?_
    try dsimp only [w0, w1, w2, w3]
    exact J4_snd  h
def J2 (k : Nat) (y3 : Sl) (y29 : Bool) (S : HS) : Option ((Bool) × HS) :=
  (if y29 = true then
  (Option.bind (HS.idx S y3 1 2) fun p15 =>
  (Option.bind (HS.ldI S .u8 (HA.fld p15 0)) fun p16 =>
  (Option.bind (HS.ldS S (HA.fld p15 1)) fun p17 =>
  (Option.bind (kSames [(.int .u8 p16), (.str p17)] [(.int .u8 45), (.str ([98, 111, 98] : List UInt8))]) fun p18 =>
  J3 k y3 (p18) S)))) else
  J3 k y3 false S)
theorem J2_snd {k : Nat}  {y3 : Sl} {y29 : Bool} {S : HS} {p : (Bool) × HS} {g0 g1 g2 g4 g5 g6 g7 g8 g9 g10 g11 g12 g13 g14 g15 g16 g17 g18 g19 g20 g21 g22 g23 g24 g25 g26 g27 g28 g30 g31 g32 g33 g34 g35 g36 g37 g38 g39 g40 g41 g42 g43 : HV} (h : J2 k y3 y29 S = some p) : HRun Tryd.prog base W0 β0 6 none [.inRegion r7 [19, 20, 21, 22, 23, 24, 25, 26, 27, 28, 29, 30, 31, 32, 33], .code c8] ⟨[g0, g1, g2, (Sl.hv y3), g4, g5, g6, g7, g8, g9, g10, g11, g12, g13, g14, g15, g16, g17, g18, g19, g20, g21, g22, g23, g24, g25, g26, g27, g28, (.bool y29), g30, g31, g32, g33, g34, g35, g36, g37, g38, g39, g40, g41, g42, g43], []⟩ S (fun v S1 => v = (.bool p.1) ∧ S1 = p.2) := by
  unfold J2 at h
  refine qS 30 rfl (ok_move · (.tmp rfl)) ?_
  try dsimp only [w0, w1, w2, w3]
  rcases ifc h with ⟨hc14, h⟩ | ⟨hc14, h⟩
  · refine qG 30 31 rfl hc14 (ok_move · (.tmp rfl)) ?_
    obtain ⟨p15, hp15, h⟩ := bindo h
    refine qG 30 32 rfl hc14 (ok_indexAddr (s := y3) · tu26 sz30 (.tmp rfl) (.int _ _) hp15) ?_
    obtain ⟨p16, hp16, h⟩ := bindo h
    obtain ⟨p17, hp17, h⟩ := bindo h
    refine qG 30 33 rfl hc14 (ok_load_a (vs := [(.int .u8 p16), (.str p17)]) · ia30 (.tmp rfl) rfl ⟨ldI_out hp16, ldS_out hp17, trivial⟩ (by simp)) ?_
    refine qG 30 34 rfl hc14 (ok_build (is := [0, 1]) (xs := [(.const (.int .u8 45)), (.const (.string ⟨#[98, 111, 98]⟩))]) (r := [(.int .u8 45), (.str ([98, 111, 98] : List UInt8))]) st30 · rfl rfl (.cons (.int _ _) (.cons (.str _) Evs.nil)) rfl) ?_
    try dsimp only [w0, w1, w2, w3]
    obtain ⟨p18, hp18, h⟩ := bindo h
    refine qG 30 35 rfl hc14 (ok_agg_eq · sk30 eg30 rfl (.tmp rfl) (.tmp rfl) hp18 (.inl ⟨rfl, rfl⟩)) ?_
    refine qS 36 rfl (ok_pick_tt · (.tmp rfl) hc14 (.tmp rfl)) ?_
    try dsimp only [w0, w1, w2, w3]
    exact J3_snd  h
  · refine q_skip (dst := some 31) (t := 30) rfl rfl rfl (bfalse hc14) ?_
    refine q_skip (dst := some 32) (t := 30) rfl rfl rfl (bfalse hc14) ?_
    refine q_skip (dst := some 33) (t := 30) rfl rfl rfl (bfalse hc14) ?_
    refine q_skip (dst := some 34) (t := 30) rfl rfl rfl (bfalse hc14) ?_
    try dsimp only [w0, w1, w2, w3]
    refine q_skip (dst := some 35) (t := 30) rfl rfl rfl (bfalse hc14) ?_
    refine qS 36 rfl (ok_pick_ff · (.tmp rfl) (bfalse hc14) (.bool _)) ?_
    try dsimp only [w0, w1, w2, w3]
    exact J3_snd  h
def J1 (k : Nat) (y3 : Sl) (y22 : Bool) (S : HS) : Option ((Bool) × HS) :=
  (if y22 = true then
  (Option.bind (HS.idx S y3 0 2) fun p10 =>
  (Option.bind (HS.ldI S .u8 (HA.fld p10 0)) fun p11 =>
  (Option.bind (HS.ldS S (HA.fld p10 1)) fun p12 =>
  (Option.bind (kSames [(.int .u8 p11), (.str p12)] [(.int .u8 43), (.str ([97, 110, 110] : List UInt8))]) fun p13 =>
  J2 k y3 (p13) S)))) else
  J2 k y3 false S)
theorem J1_snd {k : Nat}  {y3 : Sl} {y22 : Bool} {S : HS} {p : (Bool) × HS} {g0 g1 g2 g4 g5 g6 g7 g8 g9 g10 g11 g12 g13 g14 g15 g16 g17 g18 g19 g20 g21 g23 g24 g25 g26 g27 g28 g29 g30 g31 g32 g33 g34 g35 g36 g37 g38 g39 g40 g41 g42 g43 : HV} (h : J1 k y3 y22 S = some p) : HRun Tryd.prog base W0 β0 6 none [.inRegion r7 [12, 13, 14, 15, 16, 17, 18, 19, 20, 21, 22, 23, 24, 25, 26, 27, 28, 29, 30, 31, 32, 33], .code c8] ⟨[g0, g1, g2, (Sl.hv y3), g4, g5, g6, g7, g8, g9, g10, g11, g12, g13, g14, g15, g16, g17, g18, g19, g20, g21, (.bool y22), g23, g24, g25, g26, g27, g28, g29, g30, g31, g32, g33, g34, g35, g36, g37, g38, g39, g40, g41, g42, g43], []⟩ S (fun v S1 => v = (.bool p.1) ∧ S1 = p.2) := by
  unfold J1 at h
  refine qS 23 rfl (ok_move · (.tmp rfl)) ?_
  rcases ifc h with ⟨hc9, h⟩ | ⟨hc9, h⟩
  · refine qG 23 24 rfl hc9 (ok_move · (.tmp rfl)) ?_
    obtain ⟨p10, hp10, h⟩ := bindo h
    refine qG 23 25 rfl hc9 (ok_indexAddr (s := y3) · tu26 sz30 (.tmp rfl) (.int _ _) hp10) ?_
    obtain ⟨p11, hp11, h⟩ := bindo h
    obtain ⟨p12, hp12, h⟩ := bindo h
    refine qG 23 26 rfl hc9 (ok_load_a (vs := [(.int .u8 p11), (.str p12)]) · ia30 (.tmp rfl) rfl ⟨ldI_out hp11, ldS_out hp12, trivial⟩ (by simp)) ?_
    try dsimp only [w0, w1, w2, w3]
    refine qG 23 27 rfl hc9 (ok_build (is := [0, 1]) (xs := [(.const (.int .u8 43)), (.const (.string ⟨#[97, 110, 110]⟩))]) (r := [(.int .u8 43), (.str ([97, 110, 110] : List UInt8))]) st30 · rfl rfl (.cons (.int _ _) (.cons (.str _) Evs.nil)) rfl) ?_
    obtain ⟨p13, hp13, h⟩ := bindo h
    refine qG 23 28 rfl hc9 (ok_agg_eq · sk30 eg30 rfl (.tmp rfl) (.tmp rfl) hp13 (.inl ⟨rfl, rfl⟩)) ?_
    refine qS 29 rfl (ok_pick_tt · (.tmp rfl) hc9 (.tmp rfl)) ?_
    try dsimp only [w0, w1, w2, w3]
    exact J2_snd  h
  · refine q_skip (dst := some 24) (t := 23) rfl rfl rfl (bfalse hc9) ?_
    refine q_skip (dst := some 25) (t := 23) rfl rfl rfl (bfalse hc9) ?_
    refine q_skip (dst := some 26) (t := 23) rfl rfl rfl (bfalse hc9) ?_
    try dsimp only [w0, w1, w2, w3]
    refine q_skip (dst := some 27) (t := 23) rfl rfl rfl (bfalse hc9) ?_
    refine q_skip (dst := some 28) (t := 23) rfl rfl rfl (bfalse hc9) ?_
    refine qS 29 rfl (ok_pick_ff · (.tmp rfl) (bfalse hc9) (.bool _)) ?_
    try dsimp only [w0, w1, w2, w3]
    exact J2_snd  h
def J0 (k : Nat) (y3 : Sl) (y17 : Bool) (S : HS) : Option ((Bool) × HS) :=
  (if y17 = true then
  J1 k y3 (decide ((Sl.len y3 : Int) = 3)) S else
  J1 k y3 false S)
theorem J0_snd {k : Nat}  {y3 : Sl} {y17 : Bool} {S : HS} {p : (Bool) × HS} {g0 g1 g2 g4 g5 g6 g7 g8 g9 g10 g11 g12 g13 g14 g15 g16 g18 g19 g20 g21 g22 g23 g24 g25 g26 g27 g28 g29 g30 g31 g32 g33 g34 g35 g36 g37 g38 g39 g40 g41 g42 g43 : HV} (h : J0 k y3 y17 S = some p) : HRun Tryd.prog base W0 β0 6 none [.inRegion r7 [7, 8, 9, 10, 11, 12, 13, 14, 15, 16, 17, 18, 19, 20, 21, 22, 23, 24, 25, 26, 27, 28, 29, 30, 31, 32, 33], .code c8] ⟨[g0, g1, g2, (Sl.hv y3), g4, g5, g6, g7, g8, g9, g10, g11, g12, g13, g14, g15, g16, (.bool y17), g18, g19, g20, g21, g22, g23, g24, g25, g26, g27, g28, g29, g30, g31, g32, g33, g34, g35, g36, g37, g38, g39, g40, g41, g42, g43], []⟩ S (fun v S1 => v = (.bool p.1) ∧ S1 = p.2) := by
  unfold J0 at h
  refine qS 18 rfl (ok_move · (.tmp rfl)) ?_
  try dsimp only [w0, w1, w2, w3]
  rcases ifc h with ⟨hc8, h⟩ | ⟨hc8, h⟩
  · refine qG 18 19 rfl hc8 (ok_move · (.tmp rfl)) ?_
    refine qG 18 20 rfl hc8 (ok_len_sl (q := Sl.a y3) (n := Sl.len y3) (z := Sl.cap y3) · rfl tu26 (.tmp rfl)) ?_
    refine qG 18 21 rfl hc8 (ok_ibin · (.tmp rfl) (.int _ _) rfl) ?_
    refine qS 22 rfl (ok_pick_tt · (.tmp rfl) hc8 (.tmp rfl)) ?_
    try dsimp only [w0, w1, w2, w3]
    try dsimp only [w0, w1, w2, w3]
    exact J1_snd  h
  · refine q_skip (dst := some 19) (t := 18) rfl rfl rfl (bfalse hc8) ?_
    refine q_skip (dst := some 20) (t := 18) rfl rfl rfl (bfalse hc8) ?_
    refine q_skip (dst := some 21) (t := 18) rfl rfl rfl (bfalse hc8) ?_
    refine qS 22 rfl (ok_pick_ff · (.tmp rfl) (bfalse hc8) (.bool _)) ?_
    try dsimp only [w0, w1, w2, w3]
    try dsimp only [w0, w1, w2, w3]
    exact J1_snd  h
def f (k : Nat) (S : HS) : Option ((Bool) × HS) :=
  (letv (HS.lit S [[(.str ([43] : List UInt8))], [(.str ([97, 110, 110, 44, 44, 49, 120, 44, 98, 111, 98] : List UInt8))]] 1) fun p1 =>
  (Option.bind (wish_Monitor.f k (p1.1) (p1.2)) fun p2 =>
  (letv (HS.lit p2.2 [[(.str ([43, 97, 110, 110] : List UInt8))], [(.str ([45, 98, 111, 98] : List UInt8))], [(.str ([99] : List UInt8))], [(.str ([120] : List UInt8))]] 1) fun p3 =>
  (Option.bind (wish_Watch.f k (p3.1) (p3.2)) fun p4 =>
  (if p2.1.1 = 43 then
  (letv (HS.lit p4.2 [[(.str ([97, 110, 110] : List UInt8))], [(.str ([98, 111, 98] : List UInt8))]] 1) fun p6 =>
  (Option.bind (rollcallref01_Texts.f k p2.1.2 (p6.1) (p6.2)) fun p7 =>
  J0 k p4.1 p7.1 p7.2)) else
  J0 k p4.1 false p4.2)))))
theorem snd {k : Nat} {S : HS}  {p : (Bool) × HS} (h : f k S = some p) : HCall Tryd.prog base W0 β0 6 [] S (fun v S1 => v = (.bool p.1) ∧ S1 = p.2) := by
  unfold f at h
  refine HCall.of_run at_.at_ body ?_
  show HRun Tryd.prog base W0 β0 6 none [.code c0] ⟨[τ, τ, τ, τ, τ, τ, τ, τ, τ, τ, τ, τ, τ, τ, τ, τ, τ, τ, τ, τ, τ, τ, τ, τ, τ, τ, τ, τ, τ, τ, τ, τ, τ, τ, τ, τ, τ, τ, τ, τ, τ, τ, τ, τ], []⟩ S _
  refine q_seq rfl ?_
  refine q_region rfl rfl ?_
  refine qS 0 rfl (ok_assign · (.bool _)) ?_
  refine hr_region_end ?_
  try dsimp only [w0, w1, w2, w3]
  refine q_seq rfl ?_
  refine q_region rfl rfl ?_
  obtain ⟨p1, hp1, h⟩ := leto h
  refine qS 5 rfl (ok_buildSlice_s (xs := [(.const (.string ⟨#[43]⟩)), (.const (.string ⟨#[97, 110, 110, 44, 44, 49, 120, 44, 98, 111, 98]⟩))]) el22 · rfl rfl (by decide) (.cons (.str _) (.cons (.str _) Evs.nil)) rfl rfl hp1) ?_
  obtain ⟨p2, hp2, h⟩ := bindo h
  refine q_call (dst := some 6) rfl (.func _) (.cons (.tmp rfl) Evs.nil) (HInv.static wish_Monitor.at_ wish_Monitor.body (wish_Monitor.snd  hp2)) ?_
  rintro _ _ ⟨rfl, rfl⟩
  refine qS 4 rfl (ok_move · (.tmp rfl)) ?_
  refine qS 7 rfl (ok_extract · (.tmp rfl) rfl) ?_
  try dsimp only [w0, w1, w2, w3]
  refine qS 8 rfl (ok_extract · (.tmp rfl) rfl) ?_
  refine qS 1 rfl (ok_assign · (.tmp rfl)) ?_
  refine qS 2 rfl (ok_assign · (.tmp rfl)) ?_
  refine hr_region_end ?_
  try dsimp only [w0, w1, w2, w3]
  refine q_seq rfl ?_
  refine q_region rfl rfl ?_
  obtain ⟨p3, hp3, h⟩ := leto h
  refine qS 9 rfl (ok_buildSlice_s (xs := [(.const (.string ⟨#[43, 97, 110, 110]⟩)), (.const (.string ⟨#[45, 98, 111, 98]⟩)), (.const (.string ⟨#[99]⟩)), (.const (.string ⟨#[120]⟩))]) el22 · rfl rfl (by decide) (.cons (.str _) (.cons (.str _) (.cons (.str _) (.cons (.str _) Evs.nil)))) rfl rfl hp3) ?_
  obtain ⟨p4, hp4, h⟩ := bindo h
  refine q_call (dst := some 10) rfl (.func _) (.cons (.tmp rfl) Evs.nil) (HInv.static wish_Watch.at_ wish_Watch.body (wish_Watch.snd  hp4)) ?_
  rintro _ _ ⟨rfl, rfl⟩
  refine qS 3 rfl (ok_assign · (.tmp rfl)) ?_
  refine hr_region_end ?_
  try dsimp only [w0, w1, w2, w3]
  refine q_seq rfl ?_
  refine q_region rfl rfl ?_
  refine qS 11 rfl (ok_move · (.tmp rfl)) ?_
  refine qS 12 rfl (ok_ibin · (.tmp rfl) (.int _ _) rfl) ?_
  refine qS 13 rfl (ok_move · (.tmp rfl)) ?_
  rcases ifc h with ⟨hc5, h⟩ | ⟨hc5, h⟩
  · refine qG 13 14 rfl (decide_eq_true hc5) (ok_move · (.tmp rfl)) ?_
    try dsimp only [w0, w1, w2, w3]
    obtain ⟨p6, hp6, h⟩ := leto h
    refine qG 13 15 rfl (decide_eq_true hc5) (ok_buildSlice_s (xs := [(.const (.string ⟨#[97, 110, 110]⟩)), (.const (.string ⟨#[98, 111, 98]⟩))]) el22 · rfl rfl (by decide) (.cons (.str _) (.cons (.str _) Evs.nil)) rfl rfl hp6) ?_
    obtain ⟨p7, hp7, h⟩ := bindo h
    refine q_call_g (t := 13) (dst := some 16) rfl rfl rfl (decide_eq_true hc5) (.func _) (.cons (.tmp rfl) (.cons (.tmp rfl) Evs.nil)) (HInv.static rollcallref01_Texts.at_ rollcallref01_Texts.body (rollcallref01_Texts.snd  hp7)) ?_
    rintro _ _ ⟨rfl, rfl⟩
    refine qS 17 rfl (ok_pick_tt · (.tmp rfl) (decide_eq_true hc5) (.tmp rfl)) ?_
    try dsimp only [w0, w1, w2, w3]
    exact J0_snd  h
  · refine q_skip (dst := some 14) (t := 13) rfl rfl rfl (decide_eq_false hc5) ?_
    try dsimp only [w0, w1, w2, w3]
    refine q_skip (dst := some 15) (t := 13) rfl rfl rfl (decide_eq_false hc5) ?_
    refine q_skip (dst := some 16) (t := 13) rfl rfl rfl (decide_eq_false hc5) ?_
    refine qS 17 rfl (ok_pick_ff · (.tmp rfl) (decide_eq_false hc5) (.bool _)) ?_
    try dsimp only [w0, w1, w2, w3]
    exact J0_snd  h
end
end rollcalllaw21_awake
namespace rollcallref21_letter
theorem at_ : FnAt Tryd.prog 26 Tryd.f26 := ⟨Tryd.func26, by kernel_rfl⟩
noncomputable def d0 := (Tryd.f26.body).getD .skip
noncomputable def r1 := kR (kA d0)
noncomputable def r4 := kR (kA (kA (kB d0)))
noncomputable def d5 := kB (kA (kB d0))
noncomputable def r9 := kR (kA (kA (kA (kA d5))))
noncomputable def d15 := kA (kA (kB (kA (kA d5))))
noncomputable def r16 := kR (kA d15)
noncomputable def r19 := kR (kA (kA (kB d15)))
noncomputable def r22 := kR (kB (kB (kA (kA d5))))
noncomputable def r24 := kR (kA (kB (kB d0)))
noncomputable def c23 : Code := .seq (.region 6 r24 false) .ret
noncomputable def c22 : Code := .region 3 r22 false
noncomputable def c17 : Code := .cond (.tmp 21) (.seq (.region 5 r19 false) .ret) .skip
noncomputable def c7 : Code := .seq (.seq (.region 2 r9 false) (.cond (.tmp 5) .skip (.exit 0))) (.seq (.block 1 (.seq (.region 4 r16 false) c17)) c22)
noncomputable def c0 : Code := .seq (.region 0 r1 false) (.seq (.seq (.region 1 r4 false) (.block 0 (.loop c7))) c23)
theorem body : Tryd.f26.body = some c0 := by kernel_rfl
section
variable {base : Nat} {W0 : World} {β0 : Bt}
def J1 (k : Nat) (rec0 : (List UInt8) → Int → Option (Int)) (y0 : (List UInt8)) (y3 : Int) (y21 : Bool) : Option (Int) :=
  (if y21 = true then
  (Option.bind (sat ([67, 76, 83] : List UInt8) y3) fun p5 =>
  some (UInt8.toNat p5 : Int)) else
  rec0 y0 (w64 (y3 + 1)))
theorem J1_snd {k : Nat} {rec0 : (List UInt8) → Int → Option (Int)} (hrec0 : ∀ ⦃y0 : (List UInt8)⦄ ⦃y3 : Int⦄ ⦃S : HS⦄ ⦃p : Int⦄ ⦃g1 g2 g4 g5 g6 g7 g8 g9 g10 g11 g12 g13 g14 g15 g16 g17 g18 g19 g20 g21 g22 g23 : HV⦄, rec0 y0 y3 = some p → HRun Tryd.prog base W0 β0 26 none [.inLoop c7, .inBlock 0, .code c23] ⟨[(.str y0), g1, g2, (.int .i64 y3), g4, g5, g6, g7, g8, g9, g10, g11, g12, g13, g14, g15, g16, g17, g18, g19, g20, g21, g22, g23], []⟩ S (fun v S1 => v = (.int .u8 p) ∧ S1 = S)) {y0 : (List UInt8)} {y3 : Int} {y21 : Bool} {S : HS} {p : Int} {g1 g2 g4 g5 g6 g7 g8 g9 g10 g11 g12 g13 g14 g15 g16 g17 g18 g19 g20 g22 g23 : HV} (h : J1 k rec0 y0 y3 y21 = some p) : HRun Tryd.prog base W0 β0 26 none [.code c17, .inBlock 1, .code c22, .inLoop c7, .inBlock 0, .code c23] ⟨[(.str y0), g1, g2, (.int .i64 y3), g4, g5, g6, g7, g8, g9, g10, g11, g12, g13, g14, g15, g16, g17, g18, g19, g20, (.bool y21), g22, g23], []⟩ S (fun v S1 => v = (.int .u8 p) ∧ S1 = S) := by
  unfold J1 at h
  rcases ifc h with ⟨hc4, h⟩ | ⟨hc4, h⟩
  · refine q_cond_t rfl (.tmp rfl) hc4 ?_
    refine q_seq rfl ?_
    refine q_region rfl rfl ?_
    refine qS 22 rfl (ok_move · (.tmp rfl)) ?_
    obtain ⟨p5, hp5, h⟩ := bindo h
    refine qS 23 rfl (ok_index_s · tu9 (.str _) (.tmp rfl) hp5) ?_
    refine qS 2 rfl (ok_assign · (.tmp rfl)) ?_
    refine hr_region_end ?_
    try dsimp only [w0, w1, w2, w3]
    cases h
    exact q_ret rfl at_.at_ rfl (res1 rfl rfl) ⟨rfl, rfl⟩
  · refine q_cond_f rfl (.tmp rfl) (bfalse hc4) ?_
    refine q_skipc rfl ?_
    refine hr_inBlock ?_
    refine q_region rfl rfl ?_
    refine qS 6 rfl (ok_move · (.tmp rfl)) ?_
    refine qS 7 rfl (ok_ibin · (.tmp rfl) (.int _ _) rfl) ?_
    refine qS 3 rfl (ok_assign · (.tmp rfl)) ?_
    refine hr_region_end ?_
    try dsimp only [w0, w1, w2, w3]
    try dsimp only [w0, w1, w2, w3]
    exact hrec0 h
def L0 (k : Nat) : Nat → (List UInt8) → Int → Option (Int)
  | 0, _, _ => none
  | n + 1, y0, y3 =>
    (if y3 < 3 then
    (if 0 ≤ (y3 : Int) ∧ (y3 : Int) ≤ (w64 (y3 + 1)) ∧ ((w64 (y3 + 1)) : Int) ≤ (List.length ([67, 76, 83] : List UInt8) : Int) then
    (if y0 = (ssub ([67, 76, 83] : List UInt8) y3 (w64 (y3 + 1))) then
    J1 k (L0 k n) y0 y3 true else
    (if 0 ≤ (y3 : Int) ∧ (y3 : Int) ≤ (w64 (y3 + 1)) ∧ ((w64 (y3 + 1)) : Int) ≤ (List.length ([99, 108, 115] : List UInt8) : Int) then
    J1 k (L0 k n) y0 y3 (decide (y0 = (ssub ([99, 108, 115] : List UInt8) y3 (w64 (y3 + 1))))) else none)) else none) else
    some 0)
theorem L0_snd {k : Nat}  : ∀ {n : Nat} ⦃y0 : (List UInt8)⦄ ⦃y3 : Int⦄ ⦃S : HS⦄ ⦃p : Int⦄ ⦃g1 g2 g4 g5 g6 g7 g8 g9 g10 g11 g12 g13 g14 g15 g16 g17 g18 g19 g20 g21 g22 g23 : HV⦄, L0 k n y0 y3 = some p → HRun Tryd.prog base W0 β0 26 none [.inLoop c7, .inBlock 0, .code c23] ⟨[(.str y0), g1, g2, (.int .i64 y3), g4, g5, g6, g7, g8, g9, g10, g11, g12, g13, g14, g15, g16, g17, g18, g19, g20, g21, g22, g23], []⟩ S (fun v S1 => v = (.int .u8 p) ∧ S1 = S) := by
  intro n
  induction n with
  | zero => intro _ _ _ _ _ _ _ _ _ _ _ _ _ _ _ _ _ _ _ _ _ _ _ _ _ _ h; cases h
  | succ n ih =>
    intro y0 y3 S p g1 g2 g4 g5 g6 g7 g8 g9 g10 g11 g12 g13 g14 g15 g16 g17 g18 g19 g20 g21 g22 g23 h
    simp only [L0] at h
    refine hr_inLoop ?_
    refine q_seq rfl ?_
    refine q_seq rfl ?_
    refine q_region rfl rfl ?_
    refine qS 4 rfl (ok_move · (.tmp rfl)) ?_
    refine qS 5 rfl (ok_ibin · (.tmp rfl) (.int _ _) rfl) ?_
    refine hr_region_end ?_
    try dsimp only [w0, w1, w2, w3]
    rcases ifc h with ⟨hc1, h⟩ | ⟨hc1, h⟩
    · refine q_cond_t rfl (.tmp rfl) (decide_eq_true hc1) ?_
      refine q_skipc rfl ?_
      refine q_seq rfl ?_
      refine q_block rfl ?_
      refine q_seq rfl ?_
      refine q_region rfl rfl ?_
      refine qS 8 rfl (ok_move · (.tmp rfl)) ?_
      refine qS 9 rfl (ok_move · (.tmp rfl)) ?_
      refine qS 10 rfl (ok_move · (.tmp rfl)) ?_
      refine qS 11 rfl (ok_ibin · (.tmp rfl) (.int _ _) rfl) ?_
      try dsimp only [w0, w1, w2, w3]
      obtain ⟨hg2, h⟩ := gd h
      refine qS 12 rfl (ok_slice_str (kl := .i64) (kh := .i64) (l := y3) (h := (w64 (y3 + 1))) · tu9 (.str _) (.inr ⟨_, rfl, (.tmp rfl)⟩) (.inr ⟨_, rfl, (.tmp rfl)⟩) hg2.1 hg2.2.1 hg2.2.2) ?_
      refine qS 13 rfl (ok_sbin · (.tmp rfl) (.tmp rfl) rfl) ?_
      refine qS 14 rfl (ok_move · (.tmp rfl)) ?_
      rcases ifc h with ⟨hc3, h⟩ | ⟨hc3, h⟩
      · refine q_skip (dst := some 15) (t := 14) rfl rfl rfl (decide_eq_true hc3) ?_
        try dsimp only [w0, w1, w2, w3]
        refine q_skip (dst := some 16) (t := 14) rfl rfl rfl (decide_eq_true hc3) ?_
        refine q_skip (dst := some 17) (t := 14) rfl rfl rfl (decide_eq_true hc3) ?_
        refine q_skip (dst := some 18) (t := 14) rfl rfl rfl (decide_eq_true hc3) ?_
        refine q_skip (dst := some 19) (t := 14) rfl rfl rfl (decide_eq_true hc3) ?_
        try dsimp only [w0, w1, w2, w3]
        refine q_skip (dst := some 20) (t := 14) rfl rfl rfl (decide_eq_true hc3) ?_
        refine qS 21 rfl (ok_pick_tt · (.tmp rfl) (decide_eq_true hc3) (.bool _)) ?_
        refine hr_region_end ?_
        try dsimp only [w0, w1, w2, w3]
        try dsimp only [w0, w1, w2, w3]
        exact J1_snd ih h
      · refine qG 14 15 rfl (decide_eq_false hc3) (ok_move · (.tmp rfl)) ?_
        try dsimp only [w0, w1, w2, w3]
        refine qG 14 16 rfl (decide_eq_false hc3) (ok_move · (.tmp rfl)) ?_
        refine qG 14 17 rfl (decide_eq_false hc3) (ok_move · (.tmp rfl)) ?_
        refine qG 14 18 rfl (decide_eq_false hc3) (ok_ibin · (.tmp rfl) (.int _ _) rfl) ?_
        obtain ⟨hg6, h⟩ := gd h
        refine qG 14 19 rfl (decide_eq_false hc3) (ok_slice_str (kl := .i64) (kh := .i64) (l := y3) (h := (w64 (y3 + 1))) · tu9 (.str _) (.inr ⟨_, rfl, (.tmp rfl)⟩) (.inr ⟨_, rfl, (.tmp rfl)⟩) hg6.1 hg6.2.1 hg6.2.2) ?_
        try dsimp only [w0, w1, w2, w3]
        refine qG 14 20 rfl (decide_eq_false hc3) (ok_sbin · (.tmp rfl) (.tmp rfl) rfl) ?_
        refine qS 21 rfl (ok_pick_ff · (.tmp rfl) (decide_eq_false hc3) (.tmp rfl)) ?_
        refine hr_region_end ?_
        try dsimp only [w0, w1, w2, w3]
        try dsimp only [w0, w1, w2, w3]
        exact J1_snd ih h
    · refine q_cond_f rfl (.tmp rfl) (decide_eq_false hc1) ?_
      refine q_exit rfl rfl ?_
      refine q_seq rfl ?_
      refine q_region rfl rfl ?_
      refine qS 2 rfl (ok_assign · (.int _ _)) ?_
      refine hr_region_end ?_
      try dsimp only [w0, w1, w2, w3]
      cases h
      exact q_ret rfl at_.at_ rfl (res1 rfl rfl) ⟨rfl, rfl⟩
def f (k : Nat) (x0 : (List UInt8)) : Option (Int) :=
  L0 k k x0 0
theorem snd {k : Nat} {x0 : (List UInt8)} {S : HS}  {p : Int} (h : f k x0 = some p) : HCall Tryd.prog base W0 β0 26 [(.str x0)] S (fun v S1 => v = (.int .u8 p) ∧ S1 = S) := by
  unfold f at h
  refine HCall.of_run at_.at_ body ?_
  show HRun Tryd.prog base W0 β0 26 none [.code c0] ⟨[(.str x0), τ, τ, τ, τ, τ, τ, τ, τ, τ, τ, τ, τ, τ, τ, τ, τ, τ, τ, τ, τ, τ, τ, τ], []⟩ S _
  refine q_seq rfl ?_
  refine q_region rfl rfl ?_
  refine qS 2 rfl (ok_assign · (.int _ _)) ?_
  refine hr_region_end ?_
  try dsimp only [w0, w1, w2, w3]
  refine q_seq rfl ?_
  refine q_seq rfl ?_
  refine q_region rfl rfl ?_
  refine qS 3 rfl (ok_assign · (.int _ _)) ?_
  refine hr_region_end ?_
  try dsimp only [w0, w1, w2, w3]
  refine q_block rfl ?_
  refine q_loop rfl ?_
  try dsimp only [w0, w1, w2, w3]
  exact L0_snd  h
end
end rollcallref21_letter
namespace rollcallref03_Letter
theorem at_ : FnAt Tryd.prog 41 Tryd.f41 := ⟨Tryd.func41, by kernel_rfl⟩
noncomputable def d0 := (Tryd.f41.body).getD .skip
noncomputable def r1 := kR (kA d0)
noncomputable def r3 := kR (kA (kB d0))
noncomputable def c4 : Code := .ret
noncomputable def c0 : Code := .seq (.region 0 r1 false) (.seq (.region 1 r3 false) c4)
theorem body : Tryd.f41.body = some c0 := by kernel_rfl
section
variable {base : Nat} {W0 : World} {β0 : Bt}
def J1  (y16 : Bool) : Option (Bool) :=
  some y16
theorem J1_snd   {y16 : Bool} {S : HS} {p : Bool} {g0 g1 g2 g3 g4 g5 g6 g7 g8 g9 g10 g11 g12 g13 g14 g15 : HV} (h : J1  y16 = some p) : HRun Tryd.prog base W0 β0 41 none [.inRegion r3 [14], .code c4] ⟨[g0, g1, g2, g3, g4, g5, g6, g7, g8, g9, g10, g11, g12, g13, g14, g15, (.bool y16)], []⟩ S (fun v S1 => v = (.bool p) ∧ S1 = S) := by
  unfold J1 at h
  refine qS 2 rfl (ok_assign · (.tmp rfl)) ?_
  refine hr_region_end ?_
  try dsimp only [w0, w1, w2, w3]
  cases h
  exact q_ret rfl at_.at_ rfl (res1 rfl rfl) ⟨rfl, rfl⟩
def J2  (y9 : Bool) (y15 : Bool) : Option (Bool) :=
  (if y9 = true then
  J1 true else
  J1 y15)
theorem J2_snd   {y9 : Bool} {y15 : Bool} {S : HS} {p : Bool} {g0 g1 g2 g3 g4 g5 g6 g7 g8 g10 g11 g12 g13 g14 g16 : HV} (h : J2  y9 y15 = some p) : HRun Tryd.prog base W0 β0 41 none [.inRegion r3 [13, 14], .code c4] ⟨[g0, g1, g2, g3, g4, g5, g6, g7, g8, (.bool y9), g10, g11, g12, g13, g14, (.bool y15), g16], []⟩ S (fun v S1 => v = (.bool p) ∧ S1 = S) := by
  unfold J2 at h
  rcases ifc h with ⟨hc4, h⟩ | ⟨hc4, h⟩
  · refine qS 16 rfl (ok_pick_tt · (.tmp rfl) hc4 (.bool _)) ?_
    try dsimp only [w0, w1, w2, w3]
    exact J1_snd  h
  · refine qS 16 rfl (ok_pick_ff · (.tmp rfl) (bfalse hc4) (.tmp rfl)) ?_
    try dsimp only [w0, w1, w2, w3]
    exact J1_snd  h
def J0  (y0 : Int) (y8 : Bool) : Option (Bool) :=
  (if y8 = true then
  J1 true else
  (if y0 ≥ 97 then
  J2 y8 (decide (y0 ≤ 122)) else
  J2 y8 false))
theorem J0_snd   {y0 : Int} {y8 : Bool} {S : HS} {p : Bool} {g1 g2 g3 g4 g5 g6 g7 g9 g10 g11 g12 g13 g14 g15 g16 : HV} (h : J0  y0 y8 = some p) : HRun Tryd.prog base W0 β0 41 none [.inRegion r3 [6, 7, 8, 9, 10, 11, 12, 13, 14], .code c4] ⟨[(.int .u8 y0), g1, g2, g3, g4, g5, g6, g7, (.bool y8), g9, g10, g11, g12, g13, g14, g15, g16], []⟩ S (fun v S1 => v = (.bool p) ∧ S1 = S) := by
  unfold J0 at h
  refine qS 9 rfl (ok_move · (.tmp rfl)) ?_
  rcases ifc h with ⟨hc2, h⟩ | ⟨hc2, h⟩
  · refine q_skip (dst := some 10) (t := 9) rfl rfl rfl hc2 ?_
    try dsimp only [w0, w1, w2, w3]
    refine q_skip (dst := some 11) (t := 9) rfl rfl rfl hc2 ?_
    refine q_skip (dst := some 12) (t := 9) rfl rfl rfl hc2 ?_
    refine q_skip_u (dst := some 13) (t := 12) rfl rfl rfl ?_
    refine q_skip_u (dst := some 14) (t := 12) rfl rfl rfl ?_
    try dsimp only [w0, w1, w2, w3]
    refine q_skip (dst := some 15) (t := 9) rfl rfl rfl hc2 ?_
    refine qS 16 rfl (ok_pick_tt · (.tmp rfl) hc2 (.bool _)) ?_
    try dsimp only [w0, w1, w2, w3]
    exact J1_snd  h
  · refine qG 9 10 rfl (bfalse hc2) (ok_move · (.tmp rfl)) ?_
    try dsimp only [w0, w1, w2, w3]
    refine qG 9 11 rfl (bfalse hc2) (ok_ibin · (.tmp rfl) (.int _ _) rfl) ?_
    refine qG 9 12 rfl (bfalse hc2) (ok_move · (.tmp rfl)) ?_
    rcases ifc h with ⟨hc3, h⟩ | ⟨hc3, h⟩
    · refine qG 12 13 rfl (decide_eq_true hc3) (ok_move · (.tmp rfl)) ?_
      refine qG 12 14 rfl (decide_eq_true hc3) (ok_ibin · (.tmp rfl) (.int _ _) rfl) ?_
      try dsimp only [w0, w1, w2, w3]
      refine qG 9 15 rfl (bfalse hc2) (ok_pick_tt · (.tmp rfl) (decide_eq_true hc3) (.tmp rfl)) ?_
      try dsimp only [w0, w1, w2, w3]
      exact J2_snd  h
    · refine q_skip (dst := some 13) (t := 12) rfl rfl rfl (decide_eq_false hc3) ?_
      refine q_skip (dst := some 14) (t := 12) rfl rfl rfl (decide_eq_false hc3) ?_
      try dsimp only [w0, w1, w2, w3]
      refine qG 9 15 rfl (bfalse hc2) (ok_pick_ff · (.tmp rfl) (decide_eq_false hc3) (.bool _)) ?_
      try dsimp only [w0, w1, w2, w3]
      exact J2_snd  h
def f (x0 : Int) : Option (Bool) :=
  (if x0 ≥ 65 then
  J0 x0 (decide (x0 ≤ 90)) else
  J0 x0 false)
theorem snd {x0 : Int} {S : HS}  {p : Bool} (h : f x0 = some p) : HCall Tryd.prog base W0 β0 41 [(.int .u8 x0)] S (fun v S1 => v = (.bool p) ∧ S1 = S) := by
  unfold f at h
  refine HCall.of_run at_.at_ body ?_
  show HRun Tryd.prog base W0 β0 41 none [.code c0] ⟨[(.int .u8 x0), τ, τ, τ, τ, τ, τ, τ, τ, τ, τ, τ, τ, τ, τ, τ, τ], []⟩ S _
  refine q_seq rfl ?_
  refine q_region rfl rfl ?_
  refine qS 2 rfl (ok_assign · (.bool _)) ?_
  refine hr_region_end ?_
  try dsimp only [w0, w1, w2, w3]
  refine q_seq rfl ?_
  refine q_region rfl rfl ?_
  refine qS 3 rfl (ok_move · (.tmp rfl)) ?_
  refine qS 4 rfl (ok_ibin · (.tmp rfl) (.int _ _) rfl) ?_
  refine qS 5 rfl (ok_move · (.tmp rfl)) ?_
  rcases ifc h with ⟨hc1, h⟩ | ⟨hc1, h⟩
  · refine qG 5 6 rfl (decide_eq_true hc1) (ok_move · (.tmp rfl)) ?_
    try dsimp only [w0, w1, w2, w3]
    refine qG 5 7 rfl (decide_eq_true hc1) (ok_ibin · (.tmp rfl) (.int _ _) rfl) ?_
    refine qS 8 rfl (ok_pick_tt · (.tmp rfl) (decide_eq_true hc1) (.tmp rfl)) ?_
    try dsimp only [w0, w1, w2, w3]
    exact J0_snd  h
  · refine q_skip (dst := some 6) (t := 5) rfl rfl rfl (decide_eq_false hc1) ?_
    try dsimp only [w0, w1, w2, w3]
    refine q_skip (dst := some 7) (t := 5) rfl rfl rfl (decide_eq_false hc1) ?_
    refine qS 8 rfl (ok_pick_ff · (.tmp rfl) (decide_eq_false hc1) (.bool _)) ?_
    try dsimp only [w0, w1, w2, w3]
    exact J0_snd  h
end
end rollcallref03_Letter
namespace rollcallref03_in
theorem at_ : FnAt Tryd.prog 61 Tryd.f61 := ⟨Tryd.func61, by kernel_rfl⟩
noncomputable def d0 := (Tryd.f61.body).getD .skip
noncomputable def r1 := kR (kA d0)
noncomputable def r4 := kR (kA (kA (kB d0)))
noncomputable def d5 := kB (kA (kB d0))
noncomputable def r9 := kR (kA (kA (kA (kA d5))))
noncomputable def d15 := kA (kA (kB (kA (kA d5))))
noncomputable def r16 := kR (kA d15)
noncomputable def r19 := kR (kA (kA (kB d15)))
noncomputable def r22 := kR (kB (kB (kA (kA d5))))
noncomputable def r24 := kR (kA (kB (kB d0)))
noncomputable def c23 : Code := .seq (.region 6 r24 false) .ret
noncomputable def c7 : Code := .seq (.seq (.region 2 r9 false) (.cond (.tmp 9) .skip (.exit 0))) (.seq (.block 1 (.seq (.region 4 r16 false) (.cond (.tmp 16) (.seq (.region 5 r19 false) .ret) .skip))) (.region 3 r22 false))
noncomputable def c0 : Code := .seq (.region 0 r1 false) (.seq (.seq (.region 1 r4 false) (.block 0 (.loop c7))) c23)
theorem body : Tryd.f61.body = some c0 := by kernel_rfl
section
variable {base : Nat} {W0 : World} {β0 : Bt}
def L0 (k : Nat) : Nat → (List UInt8) → Int → Int → Option (Bool)
  | 0, _, _, _ => none
  | n + 1, y0, y1, y5 =>
    (if y5 < (List.length y0 : Int) then
    (Option.bind (sat y0 y5) fun p2 =>
    (if (UInt8.toNat p2 : Int) = y1 then
    some true else
    (L0 k n) y0 y1 (w64 (y5 + 1)))) else
    some false)
theorem L0_snd {k : Nat}  : ∀ {n : Nat} ⦃y0 : (List UInt8)⦄ ⦃y1 : Int⦄ ⦃y5 : Int⦄ ⦃S : HS⦄ ⦃p : Bool⦄ ⦃g2 g3 g4 g6 g7 g8 g9 g10 g11 g12 g13 g14 g15 g16 : HV⦄, L0 k n y0 y1 y5 = some p → HRun Tryd.prog base W0 β0 61 none [.inLoop c7, .inBlock 0, .code c23] ⟨[(.str y0), (.int .u8 y1), g2, g3, g4, (.int .i64 y5), g6, g7, g8, g9, g10, g11, g12, g13, g14, g15, g16], []⟩ S (fun v S1 => v = (.bool p) ∧ S1 = S) := by
  intro n
  induction n with
  | zero => intro _ _ _ _ _ _ _ _ _ _ _ _ _ _ _ _ _ _ _ h; cases h
  | succ n ih =>
    intro y0 y1 y5 S p g2 g3 g4 g6 g7 g8 g9 g10 g11 g12 g13 g14 g15 g16 h
    simp only [L0] at h
    refine hr_inLoop ?_
    refine q_seq rfl ?_
    refine q_seq rfl ?_
    refine q_region rfl rfl ?_
    refine qS 6 rfl (ok_move · (.tmp rfl)) ?_
    refine qS 7 rfl (ok_move · (.tmp rfl)) ?_
    refine qS 8 rfl (ok_len_str · rfl tu9 (.tmp rfl)) ?_
    refine qS 9 rfl (ok_ibin · (.tmp rfl) (.tmp rfl) rfl) ?_
    refine hr_region_end ?_
    try dsimp only [w0, w1, w2, w3]
    rcases ifc h with ⟨hc1, h⟩ | ⟨hc1, h⟩
    · refine q_cond_t rfl (.tmp rfl) (decide_eq_true hc1) ?_
      refine q_skipc rfl ?_
      refine q_seq rfl ?_
      refine q_block rfl ?_
      refine q_seq rfl ?_
      refine q_region rfl rfl ?_
      refine qS 12 rfl (ok_move · (.tmp rfl)) ?_
      refine qS 13 rfl (ok_move · (.tmp rfl)) ?_
      obtain ⟨p2, hp2, h⟩ := bindo h
      refine qS 14 rfl (ok_index_s · tu9 (.tmp rfl) (.tmp rfl) hp2) ?_
      refine qS 15 rfl (ok_move · (.tmp rfl)) ?_
      try dsimp only [w0, w1, w2, w3]
      refine qS 16 rfl (ok_ibin · (.tmp rfl) (.tmp rfl) rfl) ?_
      refine hr_region_end ?_
      try dsimp only [w0, w1, w2, w3]
      rcases ifc h with ⟨hc3, h⟩ | ⟨hc3, h⟩
      · refine q_cond_t rfl (.tmp rfl) (decide_eq_true hc3) ?_
        refine q_seq rfl ?_
        refine q_region rfl rfl ?_
        refine qS 4 rfl (ok_assign · (.bool _)) ?_
        refine hr_region_end ?_
        try dsimp only [w0, w1, w2, w3]
        cases h
        exact q_ret rfl at_.at_ rfl (res1 rfl rfl) ⟨rfl, rfl⟩
      · refine q_cond_f rfl (.tmp rfl) (decide_eq_false hc3) ?_
        refine q_skipc rfl ?_
        refine hr_inBlock ?_
        refine q_region rfl rfl ?_
        refine qS 10 rfl (ok_move · (.tmp rfl)) ?_
        refine qS 11 rfl (ok_ibin · (.tmp rfl) (.int _ _) rfl) ?_
        refine qS 5 rfl (ok_assign · (.tmp rfl)) ?_
        refine hr_region_end ?_
        try dsimp only [w0, w1, w2, w3]
        try dsimp only [w0, w1, w2, w3]
        exact ih h
    · refine q_cond_f rfl (.tmp rfl) (decide_eq_false hc1) ?_
      refine q_exit rfl rfl ?_
      refine q_seq rfl ?_
      refine q_region rfl rfl ?_
      refine qS 4 rfl (ok_assign · (.bool _)) ?_
      refine hr_region_end ?_
      try dsimp only [w0, w1, w2, w3]
      cases h
      exact q_ret rfl at_.at_ rfl (res1 rfl rfl) ⟨rfl, rfl⟩
def f (k : Nat) (x0 : (List UInt8)) (x1 : Int) : Option (Bool) :=
  L0 k k x0 x1 0
theorem snd {k : Nat} {x0 : (List UInt8)} {x1 : Int} {S : HS}  {p : Bool} (h : f k x0 x1 = some p) : HCall Tryd.prog base W0 β0 61 [(.str x0), (.int .u8 x1)] S (fun v S1 => v = (.bool p) ∧ S1 = S) := by
  unfold f at h
  refine HCall.of_run at_.at_ body ?_
  show HRun Tryd.prog base W0 β0 61 none [.code c0] ⟨[(.str x0), (.int .u8 x1), τ, τ, τ, τ, τ, τ, τ, τ, τ, τ, τ, τ, τ, τ, τ], []⟩ S _
  refine q_seq rfl ?_
  refine q_region rfl rfl ?_
  refine qS 4 rfl (ok_assign · (.bool _)) ?_
  refine hr_region_end ?_
  try dsimp only [w0, w1, w2, w3]
  refine q_seq rfl ?_
  refine q_seq rfl ?_
  refine q_region rfl rfl ?_
  refine qS 5 rfl (ok_assign · (.int _ _)) ?_
  refine hr_region_end ?_
  try dsimp only [w0, w1, w2, w3]
  refine q_block rfl ?_
  refine q_loop rfl ?_
  try dsimp only [w0, w1, w2, w3]
  exact L0_snd  h
end
end rollcallref03_in
namespace rollcallref03_Sign
theorem at_ : FnAt Tryd.prog 42 Tryd.f42 := ⟨Tryd.func42, by kernel_rfl⟩
noncomputable def d0 := (Tryd.f42.body).getD .skip
noncomputable def r1 := kR (kA d0)
noncomputable def r3 := kR (kA (kB d0))
noncomputable def c4 : Code := .ret
noncomputable def c0 : Code := .seq (.region 0 r1 false) (.seq (.region 1 r3 false) c4)
theorem body : Tryd.f42.body = some c0 := by kernel_rfl
section
variable {base : Nat} {W0 : World} {β0 : Bt}
def J0 (k : Nat) (y8 : Bool) : Option (Bool) :=
  some y8
theorem J0_snd {k : Nat}  {y8 : Bool} {S : HS} {p : Bool} {g0 g1 g2 g3 g4 g5 g6 g7 : HV} (h : J0 k y8 = some p) : HRun Tryd.prog base W0 β0 42 none [.inRegion r3 [6], .code c4] ⟨[g0, g1, g2, g3, g4, g5, g6, g7, (.bool y8)], []⟩ S (fun v S1 => v = (.bool p) ∧ S1 = S) := by
  unfold J0 at h
  refine qS 2 rfl (ok_assign · (.tmp rfl)) ?_
  refine hr_region_end ?_
  try dsimp only [w0, w1, w2, w3]
  cases h
  exact q_ret rfl at_.at_ rfl (res1 rfl rfl) ⟨rfl, rfl⟩
def f (k : Nat) (x0 : Int) : Option (Bool) :=
  (if x0 = 96 then
  J0 k true else
  (Option.bind (rollcallref03_in.f k ([91, 93, 92, 95, 94, 123, 124, 125] : List UInt8) x0) fun p2 =>
  J0 k p2))
theorem snd {k : Nat} {x0 : Int} {S : HS}  {p : Bool} (h : f k x0 = some p) : HCall Tryd.prog base W0 β0 42 [(.int .u8 x0)] S (fun v S1 => v = (.bool p) ∧ S1 = S) := by
  unfold f at h
  refine HCall.of_run at_.at_ body ?_
  show HRun Tryd.prog base W0 β0 42 none [.code c0] ⟨[(.int .u8 x0), τ, τ, τ, τ, τ, τ, τ, τ], []⟩ S _
  refine q_seq rfl ?_
  refine q_region rfl rfl ?_
  refine qS 2 rfl (ok_assign · (.bool _)) ?_
  refine hr_region_end ?_
  try dsimp only [w0, w1, w2, w3]
  refine q_seq rfl ?_
  refine q_region rfl rfl ?_
  refine qS 3 rfl (ok_move · (.tmp rfl)) ?_
  refine qS 4 rfl (ok_ibin · (.tmp rfl) (.int _ _) rfl) ?_
  refine qS 5 rfl (ok_move · (.tmp rfl)) ?_
  rcases ifc h with ⟨hc1, h⟩ | ⟨hc1, h⟩
  · refine q_skip (dst := some 6) (t := 5) rfl rfl rfl (decide_eq_true hc1) ?_
    try dsimp only [w0, w1, w2, w3]
    refine q_skip (dst := some 7) (t := 5) rfl rfl rfl (decide_eq_true hc1) ?_
    refine qS 8 rfl (ok_pick_tt · (.tmp rfl) (decide_eq_true hc1) (.bool _)) ?_
    try dsimp only [w0, w1, w2, w3]
    exact J0_snd  h
  · refine qG 5 6 rfl (decide_eq_false hc1) (ok_move · (.tmp rfl)) ?_
    try dsimp only [w0, w1, w2, w3]
    obtain ⟨p2, hp2, h⟩ := bindo h
    refine q_call_g (t := 5) (dst := some 7) rfl rfl rfl (decide_eq_false hc1) (.func _) (.cons (.str _) (.cons (.tmp rfl) Evs.nil)) (HInv.static rollcallref03_in.at_ rollcallref03_in.body (rollcallref03_in.snd  hp2)) ?_
    rintro _ _ ⟨rfl, rfl⟩
    refine qS 8 rfl (ok_pick_ff · (.tmp rfl) (decide_eq_false hc1) (.tmp rfl)) ?_
    try dsimp only [w0, w1, w2, w3]
    exact J0_snd  h
end
end rollcallref03_Sign
namespace rollcallref03_Digit
theorem at_ : FnAt Tryd.prog 43 Tryd.f43 := ⟨Tryd.func43, by kernel_rfl⟩
noncomputable def d0 := (Tryd.f43.body).getD .skip
noncomputable def r1 := kR (kA d0)
noncomputable def r3 := kR (kA (kB d0))
noncomputable def c4 : Code := .ret
noncomputable def c0 : Code := .seq (.region 0 r1 false) (.seq (.region 1 r3 false) c4)
theorem body : Tryd.f43.body = some c0 := by kernel_rfl
section
variable {base : Nat} {W0 : World} {β0 : Bt}
def J0  (y8 : Bool) : Option (Bool) :=
  some y8
theorem J0_snd   {y8 : Bool} {S : HS} {p : Bool} {g0 g1 g2 g3 g4 g5 g6 g7 : HV} (h : J0  y8 = some p) : HRun Tryd.prog base W0 β0 43 none [.inRegion r3 [6], .code c4] ⟨[g0, g1, g2, g3, g4, g5, g6, g7, (.bool y8)], []⟩ S (fun v S1 => v = (.bool p) ∧ S1 = S) := by
  unfold J0 at h
  refine qS 2 rfl (ok_assign · (.tmp rfl)) ?_
  refine hr_region_end ?_
  try dsimp only [w0, w1, w2, w3]
  cases h
  exact q_ret rfl at_.at_ rfl (res1 rfl rfl) ⟨rfl, rfl⟩
def f (x0 : Int) : Option (Bool) :=
  (if x0 ≥ 48 then
  J0 (decide (x0 ≤ 57)) else
  J0 false)
theorem snd {x0 : Int} {S : HS}  {p : Bool} (h : f x0 = some p) : HCall Tryd.prog base W0 β0 43 [(.int .u8 x0)] S (fun v S1 => v = (.bool p) ∧ S1 = S) := by
  unfold f at h
  refine HCall.of_run at_.at_ body ?_
  show HRun Tryd.prog base W0 β0 43 none [.code c0] ⟨[(.int .u8 x0), τ, τ, τ, τ, τ, τ, τ, τ], []⟩ S _
  refine q_seq rfl ?_
  refine q_region rfl rfl ?_
  refine qS 2 rfl (ok_assign · (.bool _)) ?_
  refine hr_region_end ?_
  try dsimp only [w0, w1, w2, w3]
  refine q_seq rfl ?_
  refine q_region rfl rfl ?_
  refine qS 3 rfl (ok_move · (.tmp rfl)) ?_
  refine qS 4 rfl (ok_ibin · (.tmp rfl) (.int _ _) rfl) ?_
  refine qS 5 rfl (ok_move · (.tmp rfl)) ?_
  rcases ifc h with ⟨hc1, h⟩ | ⟨hc1, h⟩
  · refine qG 5 6 rfl (decide_eq_true hc1) (ok_move · (.tmp rfl)) ?_
    try dsimp only [w0, w1, w2, w3]
    refine qG 5 7 rfl (decide_eq_true hc1) (ok_ibin · (.tmp rfl) (.int _ _) rfl) ?_
    refine qS 8 rfl (ok_pick_tt · (.tmp rfl) (decide_eq_true hc1) (.tmp rfl)) ?_
    try dsimp only [w0, w1, w2, w3]
    exact J0_snd  h
  · refine q_skip (dst := some 6) (t := 5) rfl rfl rfl (decide_eq_false hc1) ?_
    try dsimp only [w0, w1, w2, w3]
    refine q_skip (dst := some 7) (t := 5) rfl rfl rfl (decide_eq_false hc1) ?_
    refine qS 8 rfl (ok_pick_ff · (.tmp rfl) (decide_eq_false hc1) (.bool _)) ?_
    try dsimp only [w0, w1, w2, w3]
    exact J0_snd  h
end
end rollcallref03_Digit
namespace rollcallref03_Nick
theorem at_ : FnAt Tryd.prog 27 Tryd.f27 := ⟨Tryd.func27, by kernel_rfl⟩
noncomputable def d0 := (Tryd.f27.body).getD .skip
noncomputable def r1 := kR (kA d0)
noncomputable def r4 := kR (kA (kA (kB d0)))
noncomputable def d5 := kB (kA (kB d0))
noncomputable def r9 := kR (kA (kA (kA (kA d5))))
noncomputable def d13 := kB (kA (kA d5))
noncomputable def r16 := kR (kA (kA (kA d13)))
noncomputable def r18 := kR (kA (kB (kA (kA d13))))
noncomputable def r21 := kR (kA (kA (kB (kB (kA (kA d13))))))
noncomputable def r24 := kR (kB d13)
noncomputable def r26 := kR (kA (kB (kB d0)))
noncomputable def c27 : Code := .ret
noncomputable def c25 : Code := .seq (.region 7 r26 false) c27
noncomputable def c24 : Code := .region 3 r24 false
noncomputable def c19 : Code := .cond (.tmp 34) (.seq (.region 6 r21 false) .ret) .skip
noncomputable def c7 : Code := .seq (.seq (.region 2 r9 false) (.cond (.tmp 8) .skip (.exit 0))) (.seq (.block 1 (.seq (.region 4 r16 false) (.seq (.region 5 r18 false) c19))) c24)
noncomputable def c0 : Code := .seq (.region 0 r1 false) (.seq (.seq (.region 1 r4 false) (.block 0 (.loop c7))) c25)
theorem body : Tryd.f27.body = some c0 := by kernel_rfl
section
variable {base : Nat} {W0 : World} {β0 : Bt}
def J3 (k : Nat) (rec0 : (List UInt8) → Int → Option (Bool)) (y0 : (List UInt8)) (y3 : Int) (y34 : Bool) : Option (Bool) :=
  (if y34 = true then
  some false else
  rec0 y0 (w64 (y3 + 1)))
theorem J3_snd {k : Nat} {rec0 : (List UInt8) → Int → Option (Bool)} (hrec0 : ∀ ⦃y0 : (List UInt8)⦄ ⦃y3 : Int⦄ ⦃S : HS⦄ ⦃p : Bool⦄ ⦃g1 g2 g4 g5 g6 g7 g8 g9 g10 g11 g12 g13 g14 g15 g16 g17 g18 g19 g20 g21 g22 g23 g24 g25 g26 g27 g28 g29 g30 g31 g32 g33 g34 g35 g36 g37 g38 g39 g40 g41 g42 : HV⦄, rec0 y0 y3 = some p → HRun Tryd.prog base W0 β0 27 none [.inLoop c7, .inBlock 0, .code c25] ⟨[(.str y0), g1, g2, (.int .i64 y3), g4, g5, g6, g7, g8, g9, g10, g11, g12, g13, g14, g15, g16, g17, g18, g19, g20, g21, g22, g23, g24, g25, g26, g27, g28, g29, g30, g31, g32, g33, g34, g35, g36, g37, g38, g39, g40, g41, g42], []⟩ S (fun v S1 => v = (.bool p) ∧ S1 = S)) {y0 : (List UInt8)} {y3 : Int} {y34 : Bool} {S : HS} {p : Bool} {g1 g2 g4 g5 g6 g7 g8 g9 g10 g11 g12 g13 g14 g15 g16 g17 g18 g19 g20 g21 g22 g23 g24 g25 g26 g27 g28 g29 g30 g31 g32 g33 g35 g36 g37 g38 g39 g40 g41 g42 : HV} (h : J3 k rec0 y0 y3 y34 = some p) : HRun Tryd.prog base W0 β0 27 none [.code c19, .inBlock 1, .code c24, .inLoop c7, .inBlock 0, .code c25] ⟨[(.str y0), g1, g2, (.int .i64 y3), g4, g5, g6, g7, g8, g9, g10, g11, g12, g13, g14, g15, g16, g17, g18, g19, g20, g21, g22, g23, g24, g25, g26, g27, g28, g29, g30, g31, g32, g33, (.bool y34), g35, g36, g37, g38, g39, g40, g41, g42], []⟩ S (fun v S1 => v = (.bool p) ∧ S1 = S) := by
  unfold J3 at h
  rcases ifc h with ⟨hc9, h⟩ | ⟨hc9, h⟩
  · refine q_cond_t rfl (.tmp rfl) hc9 ?_
    refine q_seq rfl ?_
    refine q_region rfl rfl ?_
    refine qS 2 rfl (ok_assign · (.bool _)) ?_
    refine hr_region_end ?_
    try dsimp only [w0, w1, w2, w3]
    cases h
    exact q_ret rfl at_.at_ rfl (res1 rfl rfl) ⟨rfl, rfl⟩
  · refine q_cond_f rfl (.tmp rfl) (bfalse hc9) ?_
    refine q_skipc rfl ?_
    refine hr_inBlock ?_
    refine q_region rfl rfl ?_
    refine qS 9 rfl (ok_move · (.tmp rfl)) ?_
    refine qS 10 rfl (ok_ibin · (.tmp rfl) (.int _ _) rfl) ?_
    refine qS 3 rfl (ok_assign · (.tmp rfl)) ?_
    refine hr_region_end ?_
    try dsimp only [w0, w1, w2, w3]
    try dsimp only [w0, w1, w2, w3]
    exact hrec0 h
def J2 (k : Nat) (rec0 : (List UInt8) → Int → Option (Bool)) (y0 : (List UInt8)) (y3 : Int) (y22 : Bool) (y33 : Bool) : Option (Bool) :=
  (if y22 = true then
  J3 k rec0 y0 y3 y33 else
  J3 k rec0 y0 y3 false)
theorem J2_snd {k : Nat} {rec0 : (List UInt8) → Int → Option (Bool)} (hrec0 : ∀ ⦃y0 : (List UInt8)⦄ ⦃y3 : Int⦄ ⦃S : HS⦄ ⦃p : Bool⦄ ⦃g1 g2 g4 g5 g6 g7 g8 g9 g10 g11 g12 g13 g14 g15 g16 g17 g18 g19 g20 g21 g22 g23 g24 g25 g26 g27 g28 g29 g30 g31 g32 g33 g34 g35 g36 g37 g38 g39 g40 g41 g42 : HV⦄, rec0 y0 y3 = some p → HRun Tryd.prog base W0 β0 27 none [.inLoop c7, .inBlock 0, .code c25] ⟨[(.str y0), g1, g2, (.int .i64 y3), g4, g5, g6, g7, g8, g9, g10, g11, g12, g13, g14, g15, g16, g17, g18, g19, g20, g21, g22, g23, g24, g25, g26, g27, g28, g29, g30, g31, g32, g33, g34, g35, g36, g37, g38, g39, g40, g41, g42], []⟩ S (fun v S1 => v = (.bool p) ∧ S1 = S)) {y0 : (List UInt8)} {y3 : Int} {y22 : Bool} {y33 : Bool} {S : HS} {p : Bool} {g1 g2 g4 g5 g6 g7 g8 g9 g10 g11 g12 g13 g14 g15 g16 g17 g18 g19 g20 g21 g23 g24 g25 g26 g27 g28 g29 g30 g31 g32 g34 g35 g36 g37 g38 g39 g40 g41 g42 : HV} (h : J2 k rec0 y0 y3 y22 y33 = some p) : HRun Tryd.prog base W0 β0 27 none [.inRegion r18 [20], .code c19, .inBlock 1, .code c24, .inLoop c7, .inBlock 0, .code c25] ⟨[(.str y0), g1, g2, (.int .i64 y3), g4, g5, g6, g7, g8, g9, g10, g11, g12, g13, g14, g15, g16, g17, g18, g19, g20, g21, (.bool y22), g23, g24, g25, g26, g27, g28, g29, g30, g31, g32, (.bool y33), g34, g35, g36, g37, g38, g39, g40, g41, g42], []⟩ S (fun v S1 => v = (.bool p) ∧ S1 = S) := by
  unfold J2 at h
  rcases ifc h with ⟨hc8, h⟩ | ⟨hc8, h⟩
  · refine qS 34 rfl (ok_pick_tt · (.tmp rfl) hc8 (.tmp rfl)) ?_
    refine hr_region_end ?_
    try dsimp only [w0, w1, w2, w3]
    try dsimp only [w0, w1, w2, w3]
    exact J3_snd hrec0 h
  · refine qS 34 rfl (ok_pick_ff · (.tmp rfl) (bfalse hc8) (.bool _)) ?_
    refine hr_region_end ?_
    try dsimp only [w0, w1, w2, w3]
    try dsimp only [w0, w1, w2, w3]
    exact J3_snd hrec0 h
def J4 (k : Nat) (rec0 : (List UInt8) → Int → Option (Bool)) (y0 : (List UInt8)) (y3 : Int) (y22 : Bool) (y25 : Bool) (y32 : Bool) : Option (Bool) :=
  (if y22 = true then
  (if y25 = true then
  J2 k rec0 y0 y3 y22 true else
  J2 k rec0 y0 y3 y22 y32) else
  J3 k rec0 y0 y3 false)
theorem J4_snd {k : Nat} {rec0 : (List UInt8) → Int → Option (Bool)} (hrec0 : ∀ ⦃y0 : (List UInt8)⦄ ⦃y3 : Int⦄ ⦃S : HS⦄ ⦃p : Bool⦄ ⦃g1 g2 g4 g5 g6 g7 g8 g9 g10 g11 g12 g13 g14 g15 g16 g17 g18 g19 g20 g21 g22 g23 g24 g25 g26 g27 g28 g29 g30 g31 g32 g33 g34 g35 g36 g37 g38 g39 g40 g41 g42 : HV⦄, rec0 y0 y3 = some p → HRun Tryd.prog base W0 β0 27 none [.inLoop c7, .inBlock 0, .code c25] ⟨[(.str y0), g1, g2, (.int .i64 y3), g4, g5, g6, g7, g8, g9, g10, g11, g12, g13, g14, g15, g16, g17, g18, g19, g20, g21, g22, g23, g24, g25, g26, g27, g28, g29, g30, g31, g32, g33, g34, g35, g36, g37, g38, g39, g40, g41, g42], []⟩ S (fun v S1 => v = (.bool p) ∧ S1 = S)) {y0 : (List UInt8)} {y3 : Int} {y22 : Bool} {y25 : Bool} {y32 : Bool} {S : HS} {p : Bool} {g1 g2 g4 g5 g6 g7 g8 g9 g10 g11 g12 g13 g14 g15 g16 g17 g18 g19 g20 g21 g23 g24 g26 g27 g28 g29 g30 g31 g33 g34 g35 g36 g37 g38 g39 g40 g41 g42 : HV} (h : J4 k rec0 y0 y3 y22 y25 y32 = some p) : HRun Tryd.prog base W0 β0 27 none [.inRegion r18 [19, 20], .code c19, .inBlock 1, .code c24, .inLoop c7, .inBlock 0, .code c25] ⟨[(.str y0), g1, g2, (.int .i64 y3), g4, g5, g6, g7, g8, g9, g10, g11, g12, g13, g14, g15, g16, g17, g18, g19, g20, g21, (.bool y22), g23, g24, (.bool y25), g26, g27, g28, g29, g30, g31, (.bool y32), g33, g34, g35, g36, g37, g38, g39, g40, g41, g42], []⟩ S (fun v S1 => v = (.bool p) ∧ S1 = S) := by
  unfold J4 at h
  rcases ifc h with ⟨hc12, h⟩ | ⟨hc12, h⟩
  · rcases ifc h with ⟨hc13, h⟩ | ⟨hc13, h⟩
    · refine qG 22 33 rfl hc12 (ok_pick_tt · (.tmp rfl) hc13 (.bool _)) ?_
      try dsimp only [w0, w1, w2, w3]
      try dsimp only [w0, w1, w2, w3]
      exact J2_snd hrec0 h
    · refine qG 22 33 rfl hc12 (ok_pick_ff · (.tmp rfl) (bfalse hc13) (.tmp rfl)) ?_
      try dsimp only [w0, w1, w2, w3]
      try dsimp only [w0, w1, w2, w3]
      exact J2_snd hrec0 h
  · refine q_skip (dst := some 33) (t := 22) rfl rfl rfl (bfalse hc12) ?_
    try dsimp only [w0, w1, w2, w3]
    refine qS 34 rfl (ok_pick_ff · (.tmp rfl) (bfalse hc12) (.bool _)) ?_
    refine hr_region_end ?_
    try dsimp only [w0, w1, w2, w3]
    try dsimp only [w0, w1, w2, w3]
    exact J3_snd hrec0 h
def J1 (k : Nat) (rec0 : (List UInt8) → Int → Option (Bool)) (y0 : (List UInt8)) (y3 : Int) (y4 : Int) (y21 : Bool) : Option (Bool) :=
  (if y21 = true then
  (if y3 = 0 then
  J2 k rec0 y0 y3 y21 true else
  (Option.bind (rollcallref03_Digit.f y4) fun p10 =>
  (if (!p10) = true then
  J4 k rec0 y0 y3 y21 (decide (y3 = 0)) (!decide (y4 = 45)) else
  J4 k rec0 y0 y3 y21 (decide (y3 = 0)) false))) else
  J3 k rec0 y0 y3 false)
theorem J1_snd {k : Nat} {rec0 : (List UInt8) → Int → Option (Bool)} (hrec0 : ∀ ⦃y0 : (List UInt8)⦄ ⦃y3 : Int⦄ ⦃S : HS⦄ ⦃p : Bool⦄ ⦃g1 g2 g4 g5 g6 g7 g8 g9 g10 g11 g12 g13 g14 g15 g16 g17 g18 g19 g20 g21 g22 g23 g24 g25 g26 g27 g28 g29 g30 g31 g32 g33 g34 g35 g36 g37 g38 g39 g40 g41 g42 : HV⦄, rec0 y0 y3 = some p → HRun Tryd.prog base W0 β0 27 none [.inLoop c7, .inBlock 0, .code c25] ⟨[(.str y0), g1, g2, (.int .i64 y3), g4, g5, g6, g7, g8, g9, g10, g11, g12, g13, g14, g15, g16, g17, g18, g19, g20, g21, g22, g23, g24, g25, g26, g27, g28, g29, g30, g31, g32, g33, g34, g35, g36, g37, g38, g39, g40, g41, g42], []⟩ S (fun v S1 => v = (.bool p) ∧ S1 = S)) {y0 : (List UInt8)} {y3 : Int} {y4 : Int} {y21 : Bool} {S : HS} {p : Bool} {g1 g2 g5 g6 g7 g8 g9 g10 g11 g12 g13 g14 g15 g16 g17 g18 g19 g20 g22 g23 g24 g25 g26 g27 g28 g29 g30 g31 g32 g33 g34 g35 g36 g37 g38 g39 g40 g41 g42 : HV} (h : J1 k rec0 y0 y3 y4 y21 = some p) : HRun Tryd.prog base W0 β0 27 none [.inRegion r18 [8, 9, 10, 11, 12, 13, 14, 15, 16, 17, 18, 19, 20], .code c19, .inBlock 1, .code c24, .inLoop c7, .inBlock 0, .code c25] ⟨[(.str y0), g1, g2, (.int .i64 y3), (.int .u8 y4), g5, g6, g7, g8, g9, g10, g11, g12, g13, g14, g15, g16, g17, g18, g19, g20, (.bool y21), g22, g23, g24, g25, g26, g27, g28, g29, g30, g31, g32, g33, g34, g35, g36, g37, g38, g39, g40, g41, g42], []⟩ S (fun v S1 => v = (.bool p) ∧ S1 = S) := by
  unfold J1 at h
  refine qS 22 rfl (ok_move · (.tmp rfl)) ?_
  rcases ifc h with ⟨hc6, h⟩ | ⟨hc6, h⟩
  · refine qG 22 23 rfl hc6 (ok_move · (.tmp rfl)) ?_
    refine qG 22 24 rfl hc6 (ok_ibin · (.tmp rfl) (.int _ _) rfl) ?_
    refine qG 22 25 rfl hc6 (ok_move · (.tmp rfl)) ?_
    try dsimp only [w0, w1, w2, w3]
    rcases ifc h with ⟨hc7, h⟩ | ⟨hc7, h⟩
    · refine q_skip (dst := some 26) (t := 25) rfl rfl rfl (decide_eq_true hc7) ?_
      refine q_skip (dst := some 27) (t := 25) rfl rfl rfl (decide_eq_true hc7) ?_
      refine q_skip (dst := some 28) (t := 25) rfl rfl rfl (decide_eq_true hc7) ?_
      refine q_skip (dst := some 29) (t := 25) rfl rfl rfl (decide_eq_true hc7) ?_
      try dsimp only [w0, w1, w2, w3]
      refine q_skip_u (dst := some 30) (t := 29) rfl rfl rfl ?_
      refine q_skip_u (dst := some 31) (t := 29) rfl rfl rfl ?_
      refine q_skip (dst := some 32) (t := 25) rfl rfl rfl (decide_eq_true hc7) ?_
      refine qG 22 33 rfl hc6 (ok_pick_tt · (.tmp rfl) (decide_eq_true hc7) (.bool _)) ?_
      try dsimp only [w0, w1, w2, w3]
      try dsimp only [w0, w1, w2, w3]
      exact J2_snd hrec0 h
    · refine qG 25 26 rfl (decide_eq_false hc7) (ok_move · (.tmp rfl)) ?_
      obtain ⟨p10, hp10, h⟩ := bindo h
      refine q_call_g (t := 25) (dst := some 27) rfl rfl rfl (decide_eq_false hc7) (.func _) (.cons (.tmp rfl) Evs.nil) (HInv.static rollcallref03_Digit.at_ rollcallref03_Digit.body (rollcallref03_Digit.snd  hp10)) ?_
      rintro _ _ ⟨rfl, rfl⟩
      refine qG 25 28 rfl (decide_eq_false hc7) (ok_not · (.tmp rfl)) ?_
      refine qG 25 29 rfl (decide_eq_false hc7) (ok_move · (.tmp rfl)) ?_
      try dsimp only [w0, w1, w2, w3]
      rcases ifc h with ⟨hc11, h⟩ | ⟨hc11, h⟩
      · refine qG 29 30 rfl hc11 (ok_move · (.tmp rfl)) ?_
        refine qG 29 31 rfl hc11 (ok_ibin · (.tmp rfl) (.int _ _) rfl) ?_
        refine qG 25 32 rfl (decide_eq_false hc7) (ok_pick_tt · (.tmp rfl) hc11 (.tmp rfl)) ?_
        try dsimp only [w0, w1, w2, w3]
        exact J4_snd hrec0 h
      · refine q_skip (dst := some 30) (t := 29) rfl rfl rfl (bfalse hc11) ?_
        refine q_skip (dst := some 31) (t := 29) rfl rfl rfl (bfalse hc11) ?_
        refine qG 25 32 rfl (decide_eq_false hc7) (ok_pick_ff · (.tmp rfl) (bfalse hc11) (.bool _)) ?_
        try dsimp only [w0, w1, w2, w3]
        exact J4_snd hrec0 h
  · refine q_skip (dst := some 23) (t := 22) rfl rfl rfl (bfalse hc6) ?_
    refine q_skip (dst := some 24) (t := 22) rfl rfl rfl (bfalse hc6) ?_
    refine q_skip (dst := some 25) (t := 22) rfl rfl rfl (bfalse hc6) ?_
    try dsimp only [w0, w1, w2, w3]
    refine q_skip_u (dst := some 26) (t := 25) rfl rfl rfl ?_
    refine q_skip_u (dst := some 27) (t := 25) rfl rfl rfl ?_
    refine q_skip_u (dst := some 28) (t := 25) rfl rfl rfl ?_
    refine q_skip_u (dst := some 29) (t := 25) rfl rfl rfl ?_
    try dsimp only [w0, w1, w2, w3]
    refine q_skip_u (dst := some 30) (t := 29) rfl rfl rfl ?_
    refine q_skip_u (dst := some 31) (t := 29) rfl rfl rfl ?_
    refine q_skip_u (dst := some 32) (t := 25) rfl rfl rfl ?_
    refine q_skip (dst := some 33) (t := 22) rfl rfl rfl (bfalse hc6) ?_
    try dsimp only [w0, w1, w2, w3]
    refine qS 34 rfl (ok_pick_ff · (.tmp rfl) (bfalse hc6) (.bool _)) ?_
    refine hr_region_end ?_
    try dsimp only [w0, w1, w2, w3]
    try dsimp only [w0, w1, w2, w3]
    exact J3_snd hrec0 h
def J5 (k : Nat) (y42 : Bool) : Option (Bool) :=
  some y42
theorem J5_snd {k : Nat}  {y42 : Bool} {S : HS} {p : Bool} {g0 g1 g2 g3 g4 g5 g6 g7 g8 g9 g10 g11 g12 g13 g14 g15 g16 g17 g18 g19 g20 g21 g22 g23 g24 g25 g26 g27 g28 g29 g30 g31 g32 g33 g34 g35 g36 g37 g38 g39 g40 g41 : HV} (h : J5 k y42 = some p) : HRun Tryd.prog base W0 β0 27 none [.inRegion r26 [8], .code c27] ⟨[g0, g1, g2, g3, g4, g5, g6, g7, g8, g9, g10, g11, g12, g13, g14, g15, g16, g17, g18, g19, g20, g21, g22, g23, g24, g25, g26, g27, g28, g29, g30, g31, g32, g33, g34, g35, g36, g37, g38, g39, g40, g41, (.bool y42)], []⟩ S (fun v S1 => v = (.bool p) ∧ S1 = S) := by
  unfold J5 at h
  refine qS 2 rfl (ok_assign · (.tmp rfl)) ?_
  refine hr_region_end ?_
  try dsimp only [w0, w1, w2, w3]
  cases h
  exact q_ret rfl at_.at_ rfl (res1 rfl rfl) ⟨rfl, rfl⟩
def L0 (k : Nat) : Nat → (List UInt8) → Int → Option (Bool)
  | 0, _, _ => none
  | n + 1, y0, y3 =>
    (if y3 < (List.length y0 : Int) then
    (Option.bind (sat y0 y3) fun p2 =>
    (Option.bind (rollcallref03_Letter.f (UInt8.toNat p2 : Int)) fun p3 =>
    (if (!p3) = true then
    (Option.bind (rollcallref03_Sign.f k (UInt8.toNat p2 : Int)) fun p5 =>
    J1 k (L0 k n) y0 y3 (UInt8.toNat p2 : Int) (!p5)) else
    J1 k (L0 k n) y0 y3 (UInt8.toNat p2 : Int) false))) else
    (if (List.length y0 : Int) ≥ 1 then
    J5 k (decide ((List.length y0 : Int) ≤ 16)) else
    J5 k false))
theorem L0_snd {k : Nat}  : ∀ {n : Nat} ⦃y0 : (List UInt8)⦄ ⦃y3 : Int⦄ ⦃S : HS⦄ ⦃p : Bool⦄ ⦃g1 g2 g4 g5 g6 g7 g8 g9 g10 g11 g12 g13 g14 g15 g16 g17 g18 g19 g20 g21 g22 g23 g24 g25 g26 g27 g28 g29 g30 g31 g32 g33 g34 g35 g36 g37 g38 g39 g40 g41 g42 : HV⦄, L0 k n y0 y3 = some p → HRun Tryd.prog base W0 β0 27 none [.inLoop c7, .inBlock 0, .code c25] ⟨[(.str y0), g1, g2, (.int .i64 y3), g4, g5, g6, g7, g8, g9, g10, g11, g12, g13, g14, g15, g16, g17, g18, g19, g20, g21, g22, g23, g24, g25, g26, g27, g28, g29, g30, g31, g32, g33, g34, g35, g36, g37, g38, g39, g40, g41, g42], []⟩ S (fun v S1 => v = (.bool p) ∧ S1 = S) := by
  intro n
  induction n with
  | zero => intro _ _ _ _ _ _ _ _ _ _ _ _ _ _ _ _ _ _ _ _ _ _ _ _ _ _ _ _ _ _ _ _ _ _ _ _ _ _ _ _ _ _ _ _ _ h; cases h
  | succ n ih =>
    intro y0 y3 S p g1 g2 g4 g5 g6 g7 g8 g9 g10 g11 g12 g13 g14 g15 g16 g17 g18 g19 g20 g21 g22 g23 g24 g25 g26 g27 g28 g29 g30 g31 g32 g33 g34 g35 g36 g37 g38 g39 g40 g41 g42 h
    simp only [L0] at h
    refine hr_inLoop ?_
    refine q_seq rfl ?_
    refine q_seq rfl ?_
    refine q_region rfl rfl ?_
    refine qS 5 rfl (ok_move · (.tmp rfl)) ?_
    refine qS 6 rfl (ok_move · (.tmp rfl)) ?_
    refine qS 7 rfl (ok_len_str · rfl tu9 (.tmp rfl)) ?_
    refine qS 8 rfl (ok_ibin · (.tmp rfl) (.tmp rfl) rfl) ?_
    refine hr_region_end ?_
    try dsimp only [w0, w1, w2, w3]
    rcases ifc h with ⟨hc1, h⟩ | ⟨hc1, h⟩
    · refine q_cond_t rfl (.tmp rfl) (decide_eq_true hc1) ?_
      refine q_skipc rfl ?_
      refine q_seq rfl ?_
      refine q_block rfl ?_
      refine q_seq rfl ?_
      refine q_region rfl rfl ?_
      refine qS 11 rfl (ok_move · (.tmp rfl)) ?_
      refine qS 12 rfl (ok_move · (.tmp rfl)) ?_
      obtain ⟨p2, hp2, h⟩ := bindo h
      refine qS 13 rfl (ok_index_s · tu9 (.tmp rfl) (.tmp rfl) hp2) ?_
      refine qS 4 rfl (ok_assign · (.tmp rfl)) ?_
      refine hr_region_end ?_
      try dsimp only [w0, w1, w2, w3]
      refine q_seq rfl ?_
      refine q_region rfl rfl ?_
      refine qS 14 rfl (ok_move · (.tmp rfl)) ?_
      obtain ⟨p3, hp3, h⟩ := bindo h
      refine q_call (dst := some 15) rfl (.func _) (.cons (.tmp rfl) Evs.nil) (HInv.static rollcallref03_Letter.at_ rollcallref03_Letter.body (rollcallref03_Letter.snd  hp3)) ?_
      rintro _ _ ⟨rfl, rfl⟩
      refine qS 16 rfl (ok_not · (.tmp rfl)) ?_
      refine qS 17 rfl (ok_move · (.tmp rfl)) ?_
      try dsimp only [w0, w1, w2, w3]
      rcases ifc h with ⟨hc4, h⟩ | ⟨hc4, h⟩
      · refine qG 17 18 rfl hc4 (ok_move · (.tmp rfl)) ?_
        obtain ⟨p5, hp5, h⟩ := bindo h
        refine q_call_g (t := 17) (dst := some 19) rfl rfl rfl hc4 (.func _) (.cons (.tmp rfl) Evs.nil) (HInv.static rollcallref03_Sign.at_ rollcallref03_Sign.body (rollcallref03_Sign.snd  hp5)) ?_
        rintro _ _ ⟨rfl, rfl⟩
        refine qG 17 20 rfl hc4 (ok_not · (.tmp rfl)) ?_
        refine qS 21 rfl (ok_pick_tt · (.tmp rfl) hc4 (.tmp rfl)) ?_
        try dsimp only [w0, w1, w2, w3]
        try dsimp only [w0, w1, w2, w3]
        exact J1_snd ih h
      · refine q_skip (dst := some 18) (t := 17) rfl rfl rfl (bfalse hc4) ?_
        refine q_skip (dst := some 19) (t := 17) rfl rfl rfl (bfalse hc4) ?_
        refine q_skip (dst := some 20) (t := 17) rfl rfl rfl (bfalse hc4) ?_
        refine qS 21 rfl (ok_pick_ff · (.tmp rfl) (bfalse hc4) (.bool _)) ?_
        try dsimp only [w0, w1, w2, w3]
        try dsimp only [w0, w1, w2, w3]
        exact J1_snd ih h
    · refine q_cond_f rfl (.tmp rfl) (decide_eq_false hc1) ?_
      refine q_exit rfl rfl ?_
      refine q_seq rfl ?_
      refine q_region rfl rfl ?_
      refine qS 35 rfl (ok_move · (.tmp rfl)) ?_
      refine qS 36 rfl (ok_len_str · rfl tu9 (.tmp rfl)) ?_
      refine qS 37 rfl (ok_ibin · (.tmp rfl) (.int _ _) rfl) ?_
      refine qS 38 rfl (ok_move · (.tmp rfl)) ?_
      try dsimp only [w0, w1, w2, w3]
      rcases ifc h with ⟨hc14, h⟩ | ⟨hc14, h⟩
      · refine qG 38 39 rfl (decide_eq_true hc14) (ok_move · (.tmp rfl)) ?_
        refine qG 38 40 rfl (decide_eq_true hc14) (ok_len_str · rfl tu9 (.tmp rfl)) ?_
        refine qG 38 41 rfl (decide_eq_true hc14) (ok_ibin · (.tmp rfl) (.int _ _) rfl) ?_
        refine qS 42 rfl (ok_pick_tt · (.tmp rfl) (decide_eq_true hc14) (.tmp rfl)) ?_
        try dsimp only [w0, w1, w2, w3]
        try dsimp only [w0, w1, w2, w3]
        exact J5_snd  h
      · refine q_skip (dst := some 39) (t := 38) rfl rfl rfl (decide_eq_false hc14) ?_
        refine q_skip (dst := some 40) (t := 38) rfl rfl rfl (decide_eq_false hc14) ?_
        refine q_skip (dst := some 41) (t := 38) rfl rfl rfl (decide_eq_false hc14) ?_
        refine qS 42 rfl (ok_pick_ff · (.tmp rfl) (decide_eq_false hc14) (.bool _)) ?_
        try dsimp only [w0, w1, w2, w3]
        try dsimp only [w0, w1, w2, w3]
        exact J5_snd  h
def f (k : Nat) (x0 : (List UInt8)) : Option (Bool) :=
  L0 k k x0 0
theorem snd {k : Nat} {x0 : (List UInt8)} {S : HS}  {p : Bool} (h : f k x0 = some p) : HCall Tryd.prog base W0 β0 27 [(.str x0)] S (fun v S1 => v = (.bool p) ∧ S1 = S) := by
  unfold f at h
  refine HCall.of_run at_.at_ body ?_
  show HRun Tryd.prog base W0 β0 27 none [.code c0] ⟨[(.str x0), τ, τ, τ, τ, τ, τ, τ, τ, τ, τ, τ, τ, τ, τ, τ, τ, τ, τ, τ, τ, τ, τ, τ, τ, τ, τ, τ, τ, τ, τ, τ, τ, τ, τ, τ, τ, τ, τ, τ, τ, τ, τ], []⟩ S _
  refine q_seq rfl ?_
  refine q_region rfl rfl ?_
  refine qS 2 rfl (ok_assign · (.bool _)) ?_
  refine hr_region_end ?_
  try dsimp only [w0, w1, w2, w3]
  refine q_seq rfl ?_
  refine q_seq rfl ?_
  refine q_region rfl rfl ?_
  refine qS 3 rfl (ok_assign · (.int _ _)) ?_
  refine hr_region_end ?_
  try dsimp only [w0, w1, w2, w3]
  refine q_block rfl ?_
  refine q_loop rfl ?_
  try dsimp only [w0, w1, w2, w3]
  exact L0_snd  h
end
end rollcallref03_Nick
namespace rollcallref21_Monitor
theorem at_ : FnAt Tryd.prog 8 Tryd.f8 := ⟨Tryd.func8, by kernel_rfl⟩
noncomputable def d0 := (Tryd.f8.body).getD .skip
noncomputable def r1 := kR (kA d0)
noncomputable def r4 := kR (kA (kA (kB d0)))
noncomputable def r7 := kR (kA (kA (kB (kA (kB d0)))))
noncomputable def r12 := kR (kA (kA (kB (kB d0))))
noncomputable def r15 := kR (kA (kA (kB (kA (kB (kB d0))))))
noncomputable def d18 := kB (kB (kB d0))
noncomputable def r19 := kR (kA d18)
noncomputable def r22 := kR (kA (kA (kB d18)))
noncomputable def d23 := kB (kA (kB d18))
noncomputable def r25 := kR (kA (kA d23))
noncomputable def r27 := kR (kA (kB (kA d23)))
noncomputable def d28 := kB (kB (kA d23))
noncomputable def r29 := kR (kA d28)
noncomputable def d32 := kA (kA (kB d28))
noncomputable def r34 := kR (kA (kA d32))
noncomputable def d40 := kA (kA (kB d32))
noncomputable def r41 := kR (kA d40)
noncomputable def r45 := kR (kA (kA (kA (kB d40))))
noncomputable def r47 := kR (kA (kB (kA (kA (kB d40)))))
noncomputable def r49 := kR (kB (kA (kB d40)))
noncomputable def r51 := kR (kB (kB d32))
noncomputable def r54 := kR (kA (kB (kB d18)))
noncomputable def c53 : Code := .seq (.region 16 r54 false) .ret
noncomputable def c51 : Code := .region 11 r51 false
noncomputable def c49 : Code := .region 15 r49 false
noncomputable def c42 : Code := .cond (.tmp 46) (.seq (.seq (.region 13 r45 false) (.cond (.tmp 51) (.region 14 r47 false) .skip)) c49) .skip
noncomputable def c32 : Code := .seq (.seq (.region 10 r34 false) (.cond (.tmp 34) .skip (.exit 0))) (.seq (.block 1 (.seq (.region 12 r41 false) c42)) c51)
noncomputable def c18 : Code := .seq (.region 5 r19 false) (.seq (.seq (.region 6 r22 false) (.cond (.tmp 27) (.seq (.region 7 r25 false) (.seq (.region 8 r27 false) (.seq (.region 9 r29 false) (.block 0 (.loop c32))))) .skip)) c53)
noncomputable def c13 : Code := .cond (.tmp 20) (.seq (.region 4 r15 false) .ret) .skip
noncomputable def c0 : Code := .seq (.region 0 r1 false) (.seq (.seq (.region 1 r4 false) (.cond (.tmp 10) (.seq (.region 2 r7 false) .ret) .skip)) (.seq (.seq (.region 3 r12 false) c13) c18))
theorem body : Tryd.f8.body = some c0 := by kernel_rfl
section
variable {base : Nat} {W0 : World} {β0 : Bt}
def J4 (k : Nat) (rec0 : Sl → Sl → Int → (List UInt8) → Int → HS → Option ((Int × Sl) × HS)) (y0 : Sl) (y4 : Sl) (y5 : Int) (y6 : (List UInt8)) (y7 : Int) (S : HS) : Option ((Int × Sl) × HS) :=
  rec0 y0 y4 y5 y6 (w64 (y7 + 1)) S
theorem J4_snd {k : Nat} {rec0 : Sl → Sl → Int → (List UInt8) → Int → HS → Option ((Int × Sl) × HS)} (hrec0 : ∀ ⦃y0 : Sl⦄ ⦃y4 : Sl⦄ ⦃y5 : Int⦄ ⦃y6 : (List UInt8)⦄ ⦃y7 : Int⦄ ⦃S : HS⦄ ⦃p : (Int × Sl) × HS⦄ ⦃g1 g2 g3 g8 g9 g10 g11 g12 g13 g14 g15 g16 g17 g18 g19 g20 g21 g22 g23 g24 g25 g26 g27 g28 g29 g30 g31 g32 g33 g34 g35 g36 g37 g38 g39 g40 g41 g42 g43 g44 g45 g46 g47 g48 g49 g50 g51 g52 g53 g54 g55 g56 g57 g58 g59 g60 g61 g62 g63 g64 g65 : HV⦄, rec0 y0 y4 y5 y6 y7 S = some p → HRun Tryd.prog base W0 β0 8 none [.inLoop c32, .inBlock 0, .code c53] ⟨[(Sl.hv y0), g1, g2, g3, (Sl.hv y4), (.int .i64 y5), (.str y6), (.int .i64 y7), g8, g9, g10, g11, g12, g13, g14, g15, g16, g17, g18, g19, g20, g21, g22, g23, g24, g25, g26, g27, g28, g29, g30, g31, g32, g33, g34, g35, g36, g37, g38, g39, g40, g41, g42, g43, g44, g45, g46, g47, g48, g49, g50, g51, g52, g53, g54, g55, g56, g57, g58, g59, g60, g61, g62, g63, g64, g65], []⟩ S (fun v S1 => v = (.tup [(.int .u8 p.1.1), (Sl.hv p.1.2)]) ∧ S1 = p.2)) {y0 : Sl} {y4 : Sl} {y5 : Int} {y6 : (List UInt8)} {y7 : Int} {S : HS} {p : (Int × Sl) × HS} {g1 g2 g3 g8 g9 g10 g11 g12 g13 g14 g15 g16 g17 g18 g19 g20 g21 g22 g23 g24 g25 g26 g27 g28 g29 g30 g31 g32 g33 g34 g35 g36 g37 g38 g39 g40 g41 g42 g43 g44 g45 g46 g47 g48 g49 g50 g51 g52 g53 g54 g55 g56 g57 g58 g59 g60 g61 g62 g63 g64 g65 : HV} (h : J4 k rec0 y0 y4 y5 y6 y7 S = some p) : HRun Tryd.prog base W0 β0 8 none [.code c51, .inLoop c32, .inBlock 0, .code c53] ⟨[(Sl.hv y0), g1, g2, g3, (Sl.hv y4), (.int .i64 y5), (.str y6), (.int .i64 y7), g8, g9, g10, g11, g12, g13, g14, g15, g16, g17, g18, g19, g20, g21, g22, g23, g24, g25, g26, g27, g28, g29, g30, g31, g32, g33, g34, g35, g36, g37, g38, g39, g40, g41, g42, g43, g44, g45, g46, g47, g48, g49, g50, g51, g52, g53, g54, g55, g56, g57, g58, g59, g60, g61, g62, g63, g64, g65], []⟩ S (fun v S1 => v = (.tup [(.int .u8 p.1.1), (Sl.hv p.1.2)]) ∧ S1 = p.2) := by
  unfold J4 at h
  refine q_region rfl rfl ?_
  refine qS 35 rfl (ok_move · (.tmp rfl)) ?_
  refine qS 36 rfl (ok_ibin · (.tmp rfl) (.int _ _) rfl) ?_
  refine qS 7 rfl (ok_assign · (.tmp rfl)) ?_
  refine hr_region_end ?_
  try dsimp only [w0, w1, w2, w3]
  try dsimp only [w0, w1, w2, w3]
  exact hrec0 h
def J3 (k : Nat) (rec0 : Sl → Sl → Int → (List UInt8) → Int → HS → Option ((Int × Sl) × HS)) (y0 : Sl) (y4 : Sl) (y6 : (List UInt8)) (y7 : Int) (S : HS) : Option ((Int × Sl) × HS) :=
  J4 k rec0 y0 y4 (w64 (y7 + 1)) y6 y7 S
theorem J3_snd {k : Nat} {rec0 : Sl → Sl → Int → (List UInt8) → Int → HS → Option ((Int × Sl) × HS)} (hrec0 : ∀ ⦃y0 : Sl⦄ ⦃y4 : Sl⦄ ⦃y5 : Int⦄ ⦃y6 : (List UInt8)⦄ ⦃y7 : Int⦄ ⦃S : HS⦄ ⦃p : (Int × Sl) × HS⦄ ⦃g1 g2 g3 g8 g9 g10 g11 g12 g13 g14 g15 g16 g17 g18 g19 g20 g21 g22 g23 g24 g25 g26 g27 g28 g29 g30 g31 g32 g33 g34 g35 g36 g37 g38 g39 g40 g41 g42 g43 g44 g45 g46 g47 g48 g49 g50 g51 g52 g53 g54 g55 g56 g57 g58 g59 g60 g61 g62 g63 g64 g65 : HV⦄, rec0 y0 y4 y5 y6 y7 S = some p → HRun Tryd.prog base W0 β0 8 none [.inLoop c32, .inBlock 0, .code c53] ⟨[(Sl.hv y0), g1, g2, g3, (Sl.hv y4), (.int .i64 y5), (.str y6), (.int .i64 y7), g8, g9, g10, g11, g12, g13, g14, g15, g16, g17, g18, g19, g20, g21, g22, g23, g24, g25, g26, g27, g28, g29, g30, g31, g32, g33, g34, g35, g36, g37, g38, g39, g40, g41, g42, g43, g44, g45, g46, g47, g48, g49, g50, g51, g52, g53, g54, g55, g56, g57, g58, g59, g60, g61, g62, g63, g64, g65], []⟩ S (fun v S1 => v = (.tup [(.int .u8 p.1.1), (Sl.hv p.1.2)]) ∧ S1 = p.2)) {y0 : Sl} {y4 : Sl} {y6 : (List UInt8)} {y7 : Int} {S : HS} {p : (Int × Sl) × HS} {g1 g2 g3 g5 g8 g9 g10 g11 g12 g13 g14 g15 g16 g17 g18 g19 g20 g21 g22 g23 g24 g25 g26 g27 g28 g29 g30 g31 g32 g33 g34 g35 g36 g37 g38 g39 g40 g41 g42 g43 g44 g45 g46 g47 g48 g49 g50 g51 g52 g53 g54 g55 g56 g57 g58 g59 g60 g61 g62 g63 g64 g65 : HV} (h : J3 k rec0 y0 y4 y6 y7 S = some p) : HRun Tryd.prog base W0 β0 8 none [.code c49, .inBlock 1, .code c51, .inLoop c32, .inBlock 0, .code c53] ⟨[(Sl.hv y0), g1, g2, g3, (Sl.hv y4), g5, (.str y6), (.int .i64 y7), g8, g9, g10, g11, g12, g13, g14, g15, g16, g17, g18, g19, g20, g21, g22, g23, g24, g25, g26, g27, g28, g29, g30, g31, g32, g33, g34, g35, g36, g37, g38, g39, g40, g41, g42, g43, g44, g45, g46, g47, g48, g49, g50, g51, g52, g53, g54, g55, g56, g57, g58, g59, g60, g61, g62, g63, g64, g65], []⟩ S (fun v S1 => v = (.tup [(.int .u8 p.1.1), (Sl.hv p.1.2)]) ∧ S1 = p.2) := by
  unfold J3 at h
  refine q_region rfl rfl ?_
  refine qS 59 rfl (ok_move · (.tmp rfl)) ?_
  refine qS 60 rfl (ok_ibin · (.tmp rfl) (.int _ _) rfl) ?_
  refine qS 5 rfl (ok_assign · (.tmp rfl)) ?_
  refine hr_region_end ?_
  try dsimp only [w0, w1, w2, w3]
  refine hr_inBlock ?_
  try dsimp only [w0, w1, w2, w3]
  exact J4_snd hrec0 h
def J2 (k : Nat) (rec0 : Sl → Sl → Int → (List UInt8) → Int → HS → Option ((Int × Sl) × HS)) (y0 : Sl) (y4 : Sl) (y5 : Int) (y6 : (List UInt8)) (y7 : Int) (y46 : Bool) (S : HS) : Option ((Int × Sl) × HS) :=
  (if y46 = true then
  (if 0 ≤ (y5 : Int) ∧ (y5 : Int) ≤ y7 ∧ (y7 : Int) ≤ (List.length y6 : Int) then
  (Option.bind (rollcallref03_Nick.f k (ssub y6 y5 y7)) fun p18 =>
  (if p18 = true then
  (if 0 ≤ (y5 : Int) ∧ (y5 : Int) ≤ y7 ∧ (y7 : Int) ≤ (List.length y6 : Int) then
  (letv (HS.lit S [[(.str (ssub y6 y5 y7))]] 1) fun p21 =>
  (Option.bind (HS.rows (p21.2) (p21.1) 1) fun p22 =>
  (Option.bind (HS.app (p21.2) y4 p22 1) fun p23 =>
  J3 k rec0 y0 (p23.1) y6 y7 (p23.2)))) else none) else
  J3 k rec0 y0 y4 y6 y7 S)) else none) else
  J4 k rec0 y0 y4 y5 y6 y7 S)
theorem J2_snd {k : Nat} {rec0 : Sl → Sl → Int → (List UInt8) → Int → HS → Option ((Int × Sl) × HS)} (hrec0 : ∀ ⦃y0 : Sl⦄ ⦃y4 : Sl⦄ ⦃y5 : Int⦄ ⦃y6 : (List UInt8)⦄ ⦃y7 : Int⦄ ⦃S : HS⦄ ⦃p : (Int × Sl) × HS⦄ ⦃g1 g2 g3 g8 g9 g10 g11 g12 g13 g14 g15 g16 g17 g18 g19 g20 g21 g22 g23 g24 g25 g26 g27 g28 g29 g30 g31 g32 g33 g34 g35 g36 g37 g38 g39 g40 g41 g42 g43 g44 g45 g46 g47 g48 g49 g50 g51 g52 g53 g54 g55 g56 g57 g58 g59 g60 g61 g62 g63 g64 g65 : HV⦄, rec0 y0 y4 y5 y6 y7 S = some p → HRun Tryd.prog base W0 β0 8 none [.inLoop c32, .inBlock 0, .code c53] ⟨[(Sl.hv y0), g1, g2, g3, (Sl.hv y4), (.int .i64 y5), (.str y6), (.int .i64 y7), g8, g9, g10, g11, g12, g13, g14, g15, g16, g17, g18, g19, g20, g21, g22, g23, g24, g25, g26, g27, g28, g29, g30, g31, g32, g33, g34, g35, g36, g37, g38, g39, g40, g41, g42, g43, g44, g45, g46, g47, g48, g49, g50, g51, g52, g53, g54, g55, g56, g57, g58, g59, g60, g61, g62, g63, g64, g65], []⟩ S (fun v S1 => v = (.tup [(.int .u8 p.1.1), (Sl.hv p.1.2)]) ∧ S1 = p.2)) {y0 : Sl} {y4 : Sl} {y5 : Int} {y6 : (List UInt8)} {y7 : Int} {y46 : Bool} {S : HS} {p : (Int × Sl) × HS} {g1 g2 g3 g8 g9 g10 g11 g12 g13 g14 g15 g16 g17 g18 g19 g20 g21 g22 g23 g24 g25 g26 g27 g28 g29 g30 g31 g32 g33 g34 g35 g36 g37 g38 g39 g40 g41 g42 g43 g44 g45 g47 g48 g49 g50 g51 g52 g53 g54 g55 g56 g57 g58 g59 g60 g61 g62 g63 g64 g65 : HV} (h : J2 k rec0 y0 y4 y5 y6 y7 y46 S = some p) : HRun Tryd.prog base W0 β0 8 none [.code c42, .inBlock 1, .code c51, .inLoop c32, .inBlock 0, .code c53] ⟨[(Sl.hv y0), g1, g2, g3, (Sl.hv y4), (.int .i64 y5), (.str y6), (.int .i64 y7), g8, g9, g10, g11, g12, g13, g14, g15, g16, g17, g18, g19, g20, g21, g22, g23, g24, g25, g26, g27, g28, g29, g30, g31, g32, g33, g34, g35, g36, g37, g38, g39, g40, g41, g42, g43, g44, g45, (.bool y46), g47, g48, g49, g50, g51, g52, g53, g54, g55, g56, g57, g58, g59, g60, g61, g62, g63, g64, g65], []⟩ S (fun v S1 => v = (.tup [(.int .u8 p.1.1), (Sl.hv p.1.2)]) ∧ S1 = p.2) := by
  unfold J2 at h
  rcases ifc h with ⟨hc16, h⟩ | ⟨hc16, h⟩
  · refine q_cond_t rfl (.tmp rfl) hc16 ?_
    refine q_seq rfl ?_
    refine q_seq rfl ?_
    refine q_region rfl rfl ?_
    refine qS 47 rfl (ok_move · (.tmp rfl)) ?_
    refine qS 48 rfl (ok_move · (.tmp rfl)) ?_
    refine qS 49 rfl (ok_move · (.tmp rfl)) ?_
    obtain ⟨hg17, h⟩ := gd h
    refine qS 50 rfl (ok_slice_str (kl := .i64) (kh := .i64) (l := y5) (h := y7) · tu9 (.tmp rfl) (.inr ⟨_, rfl, (.tmp rfl)⟩) (.inr ⟨_, rfl, (.tmp rfl)⟩) hg17.1 hg17.2.1 hg17.2.2) ?_
    try dsimp only [w0, w1, w2, w3]
    obtain ⟨p18, hp18, h⟩ := bindo h
    refine q_call (dst := some 51) rfl (.func _) (.cons (.tmp rfl) Evs.nil) (HInv.static rollcallref03_Nick.at_ rollcallref03_Nick.body (rollcallref03_Nick.snd  hp18)) ?_
    rintro _ _ ⟨rfl, rfl⟩
    refine hr_region_end ?_
    try dsimp only [w0, w1, w2, w3]
    rcases ifc h with ⟨hc19, h⟩ | ⟨hc19, h⟩
    · refine q_cond_t rfl (.tmp rfl) hc19 ?_
      refine q_region rfl rfl ?_
      refine qS 52 rfl (ok_move · (.tmp rfl)) ?_
      refine qS 53 rfl (ok_move · (.tmp rfl)) ?_
      refine qS 54 rfl (ok_move · (.tmp rfl)) ?_
      refine qS 55 rfl (ok_move · (.tmp rfl)) ?_
      try dsimp only [w0, w1, w2, w3]
      obtain ⟨hg20, h⟩ := gd h
      refine qS 56 rfl (ok_slice_str (kl := .i64) (kh := .i64) (l := y5) (h := y7) · tu9 (.tmp rfl) (.inr ⟨_, rfl, (.tmp rfl)⟩) (.inr ⟨_, rfl, (.tmp rfl)⟩) hg20.1 hg20.2.1 hg20.2.2) ?_
      obtain ⟨p21, hp21, h⟩ := leto h
      refine qS 57 rfl (ok_buildSlice_s (xs := [(.tmp 56)]) el22 · rfl rfl (by decide) (.cons (.tmp rfl) Evs.nil) rfl rfl hp21) ?_
      obtain ⟨p22, hp22, h⟩ := bindo h
      obtain ⟨p23, hp23, h⟩ := bindo h
      refine qS 58 rfl (ok_append (s := y4) (s1 := (p21.1)) el22 · rfl rfl ⟨_, tu22⟩ (.tmp rfl) (.tmp rfl) hp22 hp23) ?_
      refine qS 4 rfl (ok_assign · (.tmp rfl)) ?_
      refine hr_region_end ?_
      try dsimp only [w0, w1, w2, w3]
      try dsimp only [w0, w1, w2, w3]
      exact J3_snd hrec0 h
    · refine q_cond_f rfl (.tmp rfl) (bfalse hc19) ?_
      refine q_skipc rfl ?_
      try dsimp only [w0, w1, w2, w3]
      exact J3_snd hrec0 h
  · refine q_cond_f rfl (.tmp rfl) (bfalse hc16) ?_
    refine q_skipc rfl ?_
    refine hr_inBlock ?_
    try dsimp only [w0, w1, w2, w3]
    exact J4_snd hrec0 h
def J5 (k : Nat) (y0 : Sl) (y4 : Sl) (S : HS) : Option ((Int × Sl) × HS) :=
  (Option.bind (HS.idx S y0 0 1) fun p25 =>
  (Option.bind (HS.ldS S p25) fun p26 =>
  (Option.bind (sat p26 0) fun p27 =>
  some (((UInt8.toNat p27 : Int), y4), S))))
theorem J5_snd {k : Nat}  {y0 : Sl} {y4 : Sl} {S : HS} {p : (Int × Sl) × HS} {g1 g2 g3 g5 g6 g7 g8 g9 g10 g11 g12 g13 g14 g15 g16 g17 g18 g19 g20 g21 g22 g23 g24 g25 g26 g27 g28 g29 g30 g31 g32 g33 g34 g35 g36 g37 g38 g39 g40 g41 g42 g43 g44 g45 g46 g47 g48 g49 g50 g51 g52 g53 g54 g55 g56 g57 g58 g59 g60 g61 g62 g63 g64 g65 : HV} (h : J5 k y0 y4 S = some p) : HRun Tryd.prog base W0 β0 8 none [.code c53] ⟨[(Sl.hv y0), g1, g2, g3, (Sl.hv y4), g5, g6, g7, g8, g9, g10, g11, g12, g13, g14, g15, g16, g17, g18, g19, g20, g21, g22, g23, g24, g25, g26, g27, g28, g29, g30, g31, g32, g33, g34, g35, g36, g37, g38, g39, g40, g41, g42, g43, g44, g45, g46, g47, g48, g49, g50, g51, g52, g53, g54, g55, g56, g57, g58, g59, g60, g61, g62, g63, g64, g65], []⟩ S (fun v S1 => v = (.tup [(.int .u8 p.1.1), (Sl.hv p.1.2)]) ∧ S1 = p.2) := by
  unfold J5 at h
  refine q_seq rfl ?_
  refine q_region rfl rfl ?_
  refine qS 61 rfl (ok_move · (.tmp rfl)) ?_
  obtain ⟨p25, hp25, h⟩ := bindo h
  refine qS 62 rfl (ok_indexAddr (s := y0) · tu22 sz9 (.tmp rfl) (.int _ _) hp25) ?_
  obtain ⟨p26, hp26, h⟩ := bindo h
  refine qS 63 rfl (ok_load_s · sc9 (.tmp rfl) rfl (ldS_out hp26)) ?_
  obtain ⟨p27, hp27, h⟩ := bindo h
  refine qS 64 rfl (ok_index_s · tu9 (.tmp rfl) (.int _ _) hp27) ?_
  try dsimp only [w0, w1, w2, w3]
  refine qS 65 rfl (ok_move · (.tmp rfl)) ?_
  refine qS 2 rfl (ok_assign · (.tmp rfl)) ?_
  refine qS 3 rfl (ok_assign · (.tmp rfl)) ?_
  refine hr_region_end ?_
  try dsimp only [w0, w1, w2, w3]
  cases h
  exact q_ret rfl at_.at_ rfl (res2 rfl rfl rfl) ⟨rfl, rfl⟩
def L1 (k : Nat) : Nat → Sl → Sl → Int → (List UInt8) → Int → HS → Option ((Int × Sl) × HS)
  | 0, _, _, _, _, _, _ => none
  | n + 1, y0, y4, y5, y6, y7, S =>
    (if y7 ≤ (List.length y6 : Int) then
    (if y7 = (List.length y6 : Int) then
    J2 k (L1 k n) y0 y4 y5 y6 y7 true S else
    (Option.bind (sat y6 y7) fun p24 =>
    J2 k (L1 k n) y0 y4 y5 y6 y7 (decide ((UInt8.toNat p24 : Int) = 44)) S)) else
    J5 k y0 y4 S)
theorem L1_snd {k : Nat}  : ∀ {n : Nat} ⦃y0 : Sl⦄ ⦃y4 : Sl⦄ ⦃y5 : Int⦄ ⦃y6 : (List UInt8)⦄ ⦃y7 : Int⦄ ⦃S : HS⦄ ⦃p : (Int × Sl) × HS⦄ ⦃g1 g2 g3 g8 g9 g10 g11 g12 g13 g14 g15 g16 g17 g18 g19 g20 g21 g22 g23 g24 g25 g26 g27 g28 g29 g30 g31 g32 g33 g34 g35 g36 g37 g38 g39 g40 g41 g42 g43 g44 g45 g46 g47 g48 g49 g50 g51 g52 g53 g54 g55 g56 g57 g58 g59 g60 g61 g62 g63 g64 g65 : HV⦄, L1 k n y0 y4 y5 y6 y7 S = some p → HRun Tryd.prog base W0 β0 8 none [.inLoop c32, .inBlock 0, .code c53] ⟨[(Sl.hv y0), g1, g2, g3, (Sl.hv y4), (.int .i64 y5), (.str y6), (.int .i64 y7), g8, g9, g10, g11, g12, g13, g14, g15, g16, g17, g18, g19, g20, g21, g22, g23, g24, g25, g26, g27, g28, g29, g30, g31, g32, g33, g34, g35, g36, g37, g38, g39, g40, g41, g42, g43, g44, g45, g46, g47, g48, g49, g50, g51, g52, g53, g54, g55, g56, g57, g58, g59, g60, g61, g62, g63, g64, g65], []⟩ S (fun v S1 => v = (.tup [(.int .u8 p.1.1), (Sl.hv p.1.2)]) ∧ S1 = p.2) := by
  intro n
  induction n with
  | zero => intro _ _ _ _ _ _ _ _ _ _ _ _ _ _ _ _ _ _ _ _ _ _ _ _ _ _ _ _ _ _ _ _ _ _ _ _ _ _ _ _ _ _ _ _ _ _ _ _ _ _ _ _ _ _ _ _ _ _ _ _ _ _ _ _ _ _ _ _ h; cases h
  | succ n ih =>
    intro y0 y4 y5 y6 y7 S p g1 g2 g3 g8 g9 g10 g11 g12 g13 g14 g15 g16 g17 g18 g19 g20 g21 g22 g23 g24 g25 g26 g27 g28 g29 g30 g31 g32 g33 g34 g35 g36 g37 g38 g39 g40 g41 g42 g43 g44 g45 g46 g47 g48 g49 g50 g51 g52 g53 g54 g55 g56 g57 g58 g59 g60 g61 g62 g63 g64 g65 h
    simp only [L1] at h
    refine hr_inLoop ?_
    refine q_seq rfl ?_
    refine q_seq rfl ?_
    refine q_region rfl rfl ?_
    refine qS 31 rfl (ok_move · (.tmp rfl)) ?_
    refine qS 32 rfl (ok_move · (.tmp rfl)) ?_
    refine qS 33 rfl (ok_len_str · rfl tu9 (.tmp rfl)) ?_
    refine qS 34 rfl (ok_ibin · (.tmp rfl) (.tmp rfl) rfl) ?_
    refine hr_region_end ?_
    try dsimp only [w0, w1, w2, w3]
    rcases ifc h with ⟨hc14, h⟩ | ⟨hc14, h⟩
    · refine q_cond_t rfl (.tmp rfl) (decide_eq_true hc14) ?_
      refine q_skipc rfl ?_
      refine q_seq rfl ?_
      refine q_block rfl ?_
      refine q_seq rfl ?_
      refine q_region rfl rfl ?_
      refine qS 37 rfl (ok_move · (.tmp rfl)) ?_
      refine qS 38 rfl (ok_move · (.tmp rfl)) ?_
      refine qS 39 rfl (ok_len_str · rfl tu9 (.tmp rfl)) ?_
      refine qS 40 rfl (ok_ibin · (.tmp rfl) (.tmp rfl) rfl) ?_
      try dsimp only [w0, w1, w2, w3]
      refine qS 41 rfl (ok_move · (.tmp rfl)) ?_
      rcases ifc h with ⟨hc15, h⟩ | ⟨hc15, h⟩
      · refine q_skip (dst := some 42) (t := 41) rfl rfl rfl (decide_eq_true hc15) ?_
        refine q_skip (dst := some 43) (t := 41) rfl rfl rfl (decide_eq_true hc15) ?_
        refine q_skip (dst := some 44) (t := 41) rfl rfl rfl (decide_eq_true hc15) ?_
        try dsimp only [w0, w1, w2, w3]
        refine q_skip (dst := some 45) (t := 41) rfl rfl rfl (decide_eq_true hc15) ?_
        refine qS 46 rfl (ok_pick_tt · (.tmp rfl) (decide_eq_true hc15) (.bool _)) ?_
        refine hr_region_end ?_
        try dsimp only [w0, w1, w2, w3]
        try dsimp only [w0, w1, w2, w3]
        exact J2_snd ih h
      · refine qG 41 42 rfl (decide_eq_false hc15) (ok_move · (.tmp rfl)) ?_
        refine qG 41 43 rfl (decide_eq_false hc15) (ok_move · (.tmp rfl)) ?_
        obtain ⟨p24, hp24, h⟩ := bindo h
        refine qG 41 44 rfl (decide_eq_false hc15) (ok_index_s · tu9 (.tmp rfl) (.tmp rfl) hp24) ?_
        try dsimp only [w0, w1, w2, w3]
        refine qG 41 45 rfl (decide_eq_false hc15) (ok_ibin · (.tmp rfl) (.int _ _) rfl) ?_
        refine qS 46 rfl (ok_pick_ff · (.tmp rfl) (decide_eq_false hc15) (.tmp rfl)) ?_
        refine hr_region_end ?_
        try dsimp only [w0, w1, w2, w3]
        try dsimp only [w0, w1, w2, w3]
        exact J2_snd ih h
    · refine q_cond_f rfl (.tmp rfl) (decide_eq_false hc14) ?_
      refine q_exit rfl rfl ?_
      try dsimp only [w0, w1, w2, w3]
      exact J5_snd  h
def J0 (k : Nat) (y0 : Sl) (y20 : Bool) (S : HS) : Option ((Int × Sl) × HS) :=
  (if y20 = true then
  (Option.bind (HS.idx S y0 0 1) fun p8 =>
  (Option.bind (HS.ldS S p8) fun p9 =>
  (Option.bind (rollcallref21_letter.f k p9) fun p10 =>
  some ((p10, Sl.nil), S)))) else
  (if (Sl.len y0 : Int) > 1 then
  (Option.bind (HS.idx S y0 1 1) fun p12 =>
  (Option.bind (HS.ldS S p12) fun p13 =>
  L1 k k y0 Sl.nil 0 p13 0 S)) else
  J5 k y0 Sl.nil S))
theorem J0_snd {k : Nat}  {y0 : Sl} {y20 : Bool} {S : HS} {p : (Int × Sl) × HS} {g1 g2 g3 g4 g5 g6 g7 g8 g9 g10 g11 g12 g13 g14 g15 g16 g17 g18 g19 g21 g22 g23 g24 g25 g26 g27 g28 g29 g30 g31 g32 g33 g34 g35 g36 g37 g38 g39 g40 g41 g42 g43 g44 g45 g46 g47 g48 g49 g50 g51 g52 g53 g54 g55 g56 g57 g58 g59 g60 g61 g62 g63 g64 g65 : HV} (h : J0 k y0 y20 S = some p) : HRun Tryd.prog base W0 β0 8 none [.code c13, .code c18] ⟨[(Sl.hv y0), g1, g2, g3, g4, g5, g6, g7, g8, g9, g10, g11, g12, g13, g14, g15, g16, g17, g18, g19, (.bool y20), g21, g22, g23, g24, g25, g26, g27, g28, g29, g30, g31, g32, g33, g34, g35, g36, g37, g38, g39, g40, g41, g42, g43, g44, g45, g46, g47, g48, g49, g50, g51, g52, g53, g54, g55, g56, g57, g58, g59, g60, g61, g62, g63, g64, g65], []⟩ S (fun v S1 => v = (.tup [(.int .u8 p.1.1), (Sl.hv p.1.2)]) ∧ S1 = p.2) := by
  unfold J0 at h
  rcases ifc h with ⟨hc7, h⟩ | ⟨hc7, h⟩
  · refine q_cond_t rfl (.tmp rfl) hc7 ?_
    refine q_seq rfl ?_
    refine q_region rfl rfl ?_
    refine qS 21 rfl (ok_move · (.tmp rfl)) ?_
    obtain ⟨p8, hp8, h⟩ := bindo h
    refine qS 22 rfl (ok_indexAddr (s := y0) · tu22 sz9 (.tmp rfl) (.int _ _) hp8) ?_
    obtain ⟨p9, hp9, h⟩ := bindo h
    refine qS 23 rfl (ok_load_s · sc9 (.tmp rfl) rfl (ldS_out hp9)) ?_
    obtain ⟨p10, hp10, h⟩ := bindo h
    refine q_call (dst := some 24) rfl (.func _) (.cons (.tmp rfl) Evs.nil) (HInv.static rollcallref21_letter.at_ rollcallref21_letter.body (rollcallref21_letter.snd  hp10)) ?_
    rintro _ _ ⟨rfl, rfl⟩
    try dsimp only [w0, w1, w2, w3]
    refine qS 2 rfl (ok_assign · (.tmp rfl)) ?_
    refine qS 3 rfl (ok_assign · (.const fun _ => .slNil none)) ?_
    refine hr_region_end ?_
    try dsimp only [w0, w1, w2, w3]
    cases h
    exact q_ret rfl at_.at_ rfl (res2 rfl rfl rfl) ⟨rfl, rfl⟩
  · refine q_cond_f rfl (.tmp rfl) (bfalse hc7) ?_
    refine q_skipc rfl ?_
    refine q_seq rfl ?_
    refine q_region rfl rfl ?_
    refine qS 4 rfl (ok_assign · (.const fun _ => .slNil none)) ?_
    refine hr_region_end ?_
    try dsimp only [w0, w1, w2, w3]
    refine q_seq rfl ?_
    refine q_seq rfl ?_
    refine q_region rfl rfl ?_
    refine qS 25 rfl (ok_move · (.tmp rfl)) ?_
    refine qS 26 rfl (ok_len_sl (q := Sl.a y0) (n := Sl.len y0) (z := Sl.cap y0) · rfl tu22 (.tmp rfl)) ?_
    refine qS 27 rfl (ok_ibin · (.tmp rfl) (.int _ _) rfl) ?_
    refine hr_region_end ?_
    try dsimp only [w0, w1, w2, w3]
    rcases ifc h with ⟨hc11, h⟩ | ⟨hc11, h⟩
    · refine q_cond_t rfl (.tmp rfl) (decide_eq_true hc11) ?_
      refine q_seq rfl ?_
      refine q_region rfl rfl ?_
      refine qS 5 rfl (ok_assign · (.int _ _)) ?_
      refine hr_region_end ?_
      try dsimp only [w0, w1, w2, w3]
      refine q_seq rfl ?_
      refine q_region rfl rfl ?_
      refine qS 28 rfl (ok_move · (.tmp rfl)) ?_
      obtain ⟨p12, hp12, h⟩ := bindo h
      refine qS 29 rfl (ok_indexAddr (s := y0) · tu22 sz9 (.tmp rfl) (.int _ _) hp12) ?_
      obtain ⟨p13, hp13, h⟩ := bindo h
      refine qS 30 rfl (ok_load_s · sc9 (.tmp rfl) rfl (ldS_out hp13)) ?_
      refine qS 6 rfl (ok_assign · (.tmp rfl)) ?_
      refine hr_region_end ?_
      try dsimp only [w0, w1, w2, w3]
      refine q_seq rfl ?_
      refine q_region rfl rfl ?_
      refine qS 7 rfl (ok_assign · (.int _ _)) ?_
      refine hr_region_end ?_
      try dsimp only [w0, w1, w2, w3]
      refine q_block rfl ?_
      refine q_loop rfl ?_
      try dsimp only [w0, w1, w2, w3]
      exact L1_snd  h
    · refine q_cond_f rfl (.tmp rfl) (decide_eq_false hc11) ?_
      refine q_skipc rfl ?_
      try dsimp only [w0, w1, w2, w3]
      exact J5_snd  h
def f (k : Nat) (x0 : Sl) (S : HS) : Option ((Int × Sl) × HS) :=
  (if (Sl.len x0 : Int) = 0 then
  some ((0, Sl.nil), S) else
  (Option.bind (HS.idx S x0 0 1) fun p2 =>
  (Option.bind (HS.ldS S p2) fun p3 =>
  (if (!decide (p3 = ([43] : List UInt8))) = true then
  (Option.bind (HS.idx S x0 0 1) fun p5 =>
  (Option.bind (HS.ldS S p5) fun p6 =>
  J0 k x0 (!decide (p6 = ([45] : List UInt8))) S)) else
  J0 k x0 false S))))
theorem snd {k : Nat} {x0 : Sl} {S : HS}  {p : (Int × Sl) × HS} (h : f k x0 S = some p) : HCall Tryd.prog base W0 β0 8 [(Sl.hv x0)] S (fun v S1 => v = (.tup [(.int .u8 p.1.1), (Sl.hv p.1.2)]) ∧ S1 = p.2) := by
  unfold f at h
  refine HCall.of_run at_.at_ body ?_
  show HRun Tryd.prog base W0 β0 8 none [.code c0] ⟨[(Sl.hv x0), τ, τ, τ, τ, τ, τ, τ, τ, τ, τ, τ, τ, τ, τ, τ, τ, τ, τ, τ, τ, τ, τ, τ, τ, τ, τ, τ, τ, τ, τ, τ, τ, τ, τ, τ, τ, τ, τ, τ, τ, τ, τ, τ, τ, τ, τ, τ, τ, τ, τ, τ, τ, τ, τ, τ, τ, τ, τ, τ, τ, τ, τ, τ, τ, τ], []⟩ S _
  refine q_seq rfl ?_
  refine q_region rfl rfl ?_
  refine qS 2 rfl (ok_assign · (.int _ _)) ?_
  refine qS 3 rfl (ok_assign · (.const fun _ => .slNil none)) ?_
  refine hr_region_end ?_
  try dsimp only [w0, w1, w2, w3]
  refine q_seq rfl ?_
  refine q_seq rfl ?_
  refine q_region rfl rfl ?_
  refine qS 8 rfl (ok_move · (.tmp rfl)) ?_
  refine qS 9 rfl (ok_len_sl (q := Sl.a x0) (n := Sl.len x0) (z := Sl.cap x0) · rfl tu22 (.tmp rfl)) ?_
  refine qS 10 rfl (ok_ibin · (.tmp rfl) (.int _ _) rfl) ?_
  refine hr_region_end ?_
  try dsimp only [w0, w1, w2, w3]
  rcases ifc h with ⟨hc1, h⟩ | ⟨hc1, h⟩
  · refine q_cond_t rfl (.tmp rfl) (decide_eq_true hc1) ?_
    refine q_seq rfl ?_
    refine q_region rfl rfl ?_
    refine qS 2 rfl (ok_assign · (.int _ _)) ?_
    refine qS 3 rfl (ok_assign · (.const fun _ => .slNil none)) ?_
    refine hr_region_end ?_
    try dsimp only [w0, w1, w2, w3]
    cases h
    exact q_ret rfl at_.at_ rfl (res2 rfl rfl rfl) ⟨rfl, rfl⟩
  · refine q_cond_f rfl (.tmp rfl) (decide_eq_false hc1) ?_
    refine q_skipc rfl ?_
    refine q_seq rfl ?_
    refine q_seq rfl ?_
    refine q_region rfl rfl ?_
    refine qS 11 rfl (ok_move · (.tmp rfl)) ?_
    obtain ⟨p2, hp2, h⟩ := bindo h
    refine qS 12 rfl (ok_indexAddr (s := x0) · tu22 sz9 (.tmp rfl) (.int _ _) hp2) ?_
    obtain ⟨p3, hp3, h⟩ := bindo h
    refine qS 13 rfl (ok_load_s · sc9 (.tmp rfl) rfl (ldS_out hp3)) ?_
    refine qS 14 rfl (ok_sbin · (.tmp rfl) (.str _) rfl) ?_
    try dsimp only [w0, w1, w2, w3]
    refine qS 15 rfl (ok_move · (.tmp rfl)) ?_
    rcases ifc h with ⟨hc4, h⟩ | ⟨hc4, h⟩
    · refine qG 15 16 rfl hc4 (ok_move · (.tmp rfl)) ?_
      obtain ⟨p5, hp5, h⟩ := bindo h
      refine qG 15 17 rfl hc4 (ok_indexAddr (s := x0) · tu22 sz9 (.tmp rfl) (.int _ _) hp5) ?_
      obtain ⟨p6, hp6, h⟩ := bindo h
      refine qG 15 18 rfl hc4 (ok_load_s · sc9 (.tmp rfl) rfl (ldS_out hp6)) ?_
      try dsimp only [w0, w1, w2, w3]
      refine qG 15 19 rfl hc4 (ok_sbin · (.tmp rfl) (.str _) rfl) ?_
      refine qS 20 rfl (ok_pick_tt · (.tmp rfl) hc4 (.tmp rfl)) ?_
      refine hr_region_end ?_
      try dsimp only [w0, w1, w2, w3]
      try dsimp only [w0, w1, w2, w3]
      exact J0_snd  h
    · refine q_skip (dst := some 16) (t := 15) rfl rfl rfl (bfalse hc4) ?_
      refine q_skip (dst := some 17) (t := 15) rfl rfl rfl (bfalse hc4) ?_
      refine q_skip (dst := some 18) (t := 15) rfl rfl rfl (bfalse hc4) ?_
      try dsimp only [w0, w1, w2, w3]
      refine q_skip (dst := some 19) (t := 15) rfl rfl rfl (bfalse hc4) ?_
      refine qS 20 rfl (ok_pick_ff · (.tmp rfl) (bfalse hc4) (.bool _)) ?_
      refine hr_region_end ?_
      try dsimp only [w0, w1, w2, w3]
      try dsimp only [w0, w1, w2, w3]
      exact J0_snd  h
end
end rollcallref21_Monitor
namespace rollcallref21_Watch
theorem at_ : FnAt Tryd.prog 10 Tryd.f10 := ⟨Tryd.func10, by kernel_rfl⟩
noncomputable def d0 := (Tryd.f10.body).getD .skip
noncomputable def r1 := kR (kA d0)
noncomputable def r4 := kR (kA (kA (kB d0)))
noncomputable def r7 := kR (kA (kA (kB (kA (kB d0)))))
noncomputable def r11 := kR (kA (kB (kB d0)))
noncomputable def d12 := kB (kB (kB d0))
noncomputable def r14 := kR (kA (kA d12))
noncomputable def d16 := kA (kB (kA d12))
noncomputable def r19 := kR (kA (kA (kA d16)))
noncomputable def d24 := kA (kB (kA d16))
noncomputable def r26 := kR (kA (kA d24))
noncomputable def r29 := kR (kA (kA (kB (kA d24))))
noncomputable def r31 := kR (kA (kB (kA (kB (kA d24)))))
noncomputable def r34 := kR (kA (kA (kB (kB (kA (kB (kA d24)))))))
noncomputable def r38 := kR (kA (kB (kB (kA d24))))
noncomputable def r40 := kR (kA (kB (kB (kB (kA d24)))))
noncomputable def r42 := kR (kB (kB (kA d16)))
noncomputable def r44 := kR (kA (kB d12))
noncomputable def c43 : Code := .seq (.region 13 r44 false) .ret
noncomputable def c42 : Code := .region 6 r42 false
noncomputable def c39 : Code := .cond (.tmp 48) (.region 12 r40 true) .skip
noncomputable def c17 : Code := .seq (.seq (.region 5 r19 false) (.cond (.tmp 15) .skip (.exit 0))) (.seq (.block 1 (.seq (.region 7 r26 false) (.seq (.seq (.region 8 r29 false) (.seq (.region 9 r31 false) (.cond (.tmp 25) (.seq (.region 10 r34 false) (.exit 1)) .skip))) (.seq (.region 11 r38 false) c39)))) c42)
noncomputable def c0 : Code := .seq (.region 0 r1 false) (.seq (.seq (.region 1 r4 false) (.cond (.tmp 9) (.seq (.region 2 r7 false) .ret) .skip)) (.seq (.region 3 r11 false) (.seq (.seq (.region 4 r14 false) (.block 0 (.loop c17))) c43)))
theorem body : Tryd.f10.body = some c0 := by kernel_rfl
section
variable {base : Nat} {W0 : World} {β0 : Bt}
def J1 (k : Nat) (rec0 : Sl → Sl → Int → HS → Option ((Sl) × HS)) (y0 : Sl) (y3 : Sl) (y4 : Int) (S : HS) : Option ((Sl) × HS) :=
  rec0 y0 y3 (w64 (y4 + 1)) S
theorem J1_snd {k : Nat} {rec0 : Sl → Sl → Int → HS → Option ((Sl) × HS)} (hrec0 : ∀ ⦃y0 : Sl⦄ ⦃y3 : Sl⦄ ⦃y4 : Int⦄ ⦃S : HS⦄ ⦃p : (Sl) × HS⦄ ⦃g1 g2 g5 g6 g7 g8 g9 g10 g11 g12 g13 g14 g15 g16 g17 g18 g19 g20 g21 g22 g23 g24 g25 g26 g27 g28 g29 g30 g31 g32 g33 g34 g35 g36 g37 g38 g39 g40 g41 g42 g43 g44 g45 g46 g47 g48 g49 g50 g51 g52 g53 g54 g55 g56 g57 : HV⦄, rec0 y0 y3 y4 S = some p → HRun Tryd.prog base W0 β0 10 none [.inLoop c17, .inBlock 0, .code c43] ⟨[(Sl.hv y0), g1, g2, (Sl.hv y3), (.int .i64 y4), g5, g6, g7, g8, g9, g10, g11, g12, g13, g14, g15, g16, g17, g18, g19, g20, g21, g22, g23, g24, g25, g26, g27, g28, g29, g30, g31, g32, g33, g34, g35, g36, g37, g38, g39, g40, g41, g42, g43, g44, g45, g46, g47, g48, g49, g50, g51, g52, g53, g54, g55, g56, g57], []⟩ S (fun v S1 => v = (Sl.hv p.1) ∧ S1 = p.2)) {y0 : Sl} {y3 : Sl} {y4 : Int} {S : HS} {p : (Sl) × HS} {g1 g2 g5 g6 g7 g8 g9 g10 g11 g12 g13 g14 g15 g16 g17 g18 g19 g20 g21 g22 g23 g24 g25 g26 g27 g28 g29 g30 g31 g32 g33 g34 g35 g36 g37 g38 g39 g40 g41 g42 g43 g44 g45 g46 g47 g48 g49 g50 g51 g52 g53 g54 g55 g56 g57 : HV} (h : J1 k rec0 y0 y3 y4 S = some p) : HRun Tryd.prog base W0 β0 10 none [.code c42, .inLoop c17, .inBlock 0, .code c43] ⟨[(Sl.hv y0), g1, g2, (Sl.hv y3), (.int .i64 y4), g5, g6, g7, g8, g9, g10, g11, g12, g13, g14, g15, g16, g17, g18, g19, g20, g21, g22, g23, g24, g25, g26, g27, g28, g29, g30, g31, g32, g33, g34, g35, g36, g37, g38, g39, g40, g41, g42, g43, g44, g45, g46, g47, g48, g49, g50, g51, g52, g53, g54, g55, g56, g57], []⟩ S (fun v S1 => v = (Sl.hv p.1) ∧ S1 = p.2) := by
  unfold J1 at h
  refine q_region rfl rfl ?_
  refine qS 16 rfl (ok_move · (.tmp rfl)) ?_
  refine qS 17 rfl (ok_ibin · (.tmp rfl) (.int _ _) rfl) ?_
  refine qS 4 rfl (ok_assign · (.tmp rfl)) ?_
  refine hr_region_end ?_
  try dsimp only [w0, w1, w2, w3]
  try dsimp only [w0, w1, w2, w3]
  exact hrec0 h
def J4 (k : Nat) (rec0 : Sl → Sl → Int → HS → Option ((Sl) × HS)) (y0 : Sl) (y3 : Sl) (y4 : Int) (y5 : (List UInt8)) (y48 : Bool) (S : HS) : Option ((Sl) × HS) :=
  (if y48 = true then
  (Option.bind (sat y5 0) fun p19 =>
  (if 0 ≤ (1 : Int) ∧ (1 : Int) ≤ (List.length y5 : Int) ∧ ((List.length y5 : Int) : Int) ≤ (List.length y5 : Int) then
  (letv (HS.lit S [[(.int .u8 (UInt8.toNat p19 : Int)), (.str (ssub y5 1 (List.length y5 : Int)))]] 2) fun p21 =>
  (Option.bind (HS.rows (p21.2) (p21.1) 2) fun p22 =>
  (Option.bind (HS.app (p21.2) y3 p22 2) fun p23 =>
  J1 k rec0 y0 (p23.1) y4 (p23.2)))) else none)) else
  J1 k rec0 y0 y3 y4 S)
theorem J4_snd {k : Nat} {rec0 : Sl → Sl → Int → HS → Option ((Sl) × HS)} (hrec0 : ∀ ⦃y0 : Sl⦄ ⦃y3 : Sl⦄ ⦃y4 : Int⦄ ⦃S : HS⦄ ⦃p : (Sl) × HS⦄ ⦃g1 g2 g5 g6 g7 g8 g9 g10 g11 g12 g13 g14 g15 g16 g17 g18 g19 g20 g21 g22 g23 g24 g25 g26 g27 g28 g29 g30 g31 g32 g33 g34 g35 g36 g37 g38 g39 g40 g41 g42 g43 g44 g45 g46 g47 g48 g49 g50 g51 g52 g53 g54 g55 g56 g57 : HV⦄, rec0 y0 y3 y4 S = some p → HRun Tryd.prog base W0 β0 10 none [.inLoop c17, .inBlock 0, .code c43] ⟨[(Sl.hv y0), g1, g2, (Sl.hv y3), (.int .i64 y4), g5, g6, g7, g8, g9, g10, g11, g12, g13, g14, g15, g16, g17, g18, g19, g20, g21, g22, g23, g24, g25, g26, g27, g28, g29, g30, g31, g32, g33, g34, g35, g36, g37, g38, g39, g40, g41, g42, g43, g44, g45, g46, g47, g48, g49, g50, g51, g52, g53, g54, g55, g56, g57], []⟩ S (fun v S1 => v = (Sl.hv p.1) ∧ S1 = p.2)) {y0 : Sl} {y3 : Sl} {y4 : Int} {y5 : (List UInt8)} {y48 : Bool} {S : HS} {p : (Sl) × HS} {g1 g2 g6 g7 g8 g9 g10 g11 g12 g13 g14 g15 g16 g17 g18 g19 g20 g21 g22 g23 g24 g25 g26 g27 g28 g29 g30 g31 g32 g33 g34 g35 g36 g37 g38 g39 g40 g41 g42 g43 g44 g45 g46 g47 g49 g50 g51 g52 g53 g54 g55 g56 g57 : HV} (h : J4 k rec0 y0 y3 y4 y5 y48 S = some p) : HRun Tryd.prog base W0 β0 10 none [.code c39, .inBlock 1, .code c42, .inLoop c17, .inBlock 0, .code c43] ⟨[(Sl.hv y0), g1, g2, (Sl.hv y3), (.int .i64 y4), (.str y5), g6, g7, g8, g9, g10, g11, g12, g13, g14, g15, g16, g17, g18, g19, g20, g21, g22, g23, g24, g25, g26, g27, g28, g29, g30, g31, g32, g33, g34, g35, g36, g37, g38, g39, g40, g41, g42, g43, g44, g45, g46, g47, (.bool y48), g49, g50, g51, g52, g53, g54, g55, g56, g57], []⟩ S (fun v S1 => v = (Sl.hv p.1) ∧ S1 = p.2) := by
  unfold J4 at h
  rcases ifc h with ⟨hc18, h⟩ | ⟨hc18, h⟩
  · refine q_cond_t rfl (.tmp rfl) hc18 ?_
    refine x_start (cls := [0, 0, 0, 0, 0, 0, 2, 2, 0]) (rk := [0, 1, 2, 3, 4, 5, 6, 7, 8]) rfl (by kernel_rfl) ?_
    refine yf 49 [3] rfl (ok_move · (.tmp rfl)) ?_
    refine yf 50 [5] rfl (ok_move · (.tmp rfl)) ?_
    obtain ⟨p19, hp19, h⟩ := bindo h
    refine yf 51 [50] rfl (ok_index_s · tu9 (.tmp rfl) (.int _ _) hp19) ?_
    refine yf 52 [5] rfl (ok_move · (.tmp rfl)) ?_
    try dsimp only [w0, w1, w2, w3]
    obtain ⟨hg20, h⟩ := gd h
    refine yf 53 [52] rfl (ok_slice_str (kl := .i64) (kh := .i64) (l := 1) (h := (List.length y5 : Int)) · tu9 (.tmp rfl) (.inr ⟨_, rfl, (.int _ _)⟩) (.inl ⟨rfl, rfl⟩) hg20.1 hg20.2.1 hg20.2.2) ?_
    refine yf 54 [51, 53] rfl (ok_build (is := [0, 1]) (xs := [(.tmp 51), (.tmp 53)]) (r := [(.int .u8 (UInt8.toNat p19 : Int)), (.str (ssub y5 1 (List.length y5 : Int)))]) st30 · rfl rfl (.cons (.tmp rfl) (.cons (.tmp rfl) Evs.nil)) rfl) ?_
    obtain ⟨p21, hp21, h⟩ := leto h
    refine ye 55 [54] rfl (ok_buildSlice_s (xs := [(.tmp 54)]) el26 · rfl rfl (by decide) (.cons (.tmp rfl) Evs.nil) rfl rfl hp21) ?_
    obtain ⟨p22, hp22, h⟩ := bindo h
    obtain ⟨p23, hp23, h⟩ := bindo h
    refine ye 56 [49, 55] rfl (ok_append (s := y3) (s1 := (p21.1)) el26 · rfl rfl ⟨_, tu26⟩ (.tmp rfl) (.tmp rfl) hp22 hp23) ?_
    try dsimp only [w0, w1, w2, w3]
    refine yf 3 [56] rfl (ok_assign · (.tmp rfl)) ?_
    refine x_rest rfl ?_
    refine hr_region_end ?_
    try dsimp only [w0, w1, w2, w3]
    refine hr_inBlock ?_
    try dsimp only [w0, w1, w2, w3]
    exact J1_snd hrec0 h
  · refine q_cond_f rfl (.tmp rfl) (bfalse hc18) ?_
    refine q_skipc rfl ?_
    refine hr_inBlock ?_
    try dsimp only [w0, w1, w2, w3]
    exact J1_snd hrec0 h
def J3 (k : Nat) (rec0 : Sl → Sl → Int → HS → Option ((Sl) × HS)) (y0 : Sl) (y3 : Sl) (y4 : Int) (y5 : (List UInt8)) (y43 : Bool) (S : HS) : Option ((Sl) × HS) :=
  (if y43 = true then
  (if 0 ≤ (1 : Int) ∧ (1 : Int) ≤ (List.length y5 : Int) ∧ ((List.length y5 : Int) : Int) ≤ (List.length y5 : Int) then
  (Option.bind (rollcallref03_Nick.f k (ssub y5 1 (List.length y5 : Int))) fun p17 =>
  J4 k rec0 y0 y3 y4 y5 p17 S) else none) else
  J4 k rec0 y0 y3 y4 y5 false S)
theorem J3_snd {k : Nat} {rec0 : Sl → Sl → Int → HS → Option ((Sl) × HS)} (hrec0 : ∀ ⦃y0 : Sl⦄ ⦃y3 : Sl⦄ ⦃y4 : Int⦄ ⦃S : HS⦄ ⦃p : (Sl) × HS⦄ ⦃g1 g2 g5 g6 g7 g8 g9 g10 g11 g12 g13 g14 g15 g16 g17 g18 g19 g20 g21 g22 g23 g24 g25 g26 g27 g28 g29 g30 g31 g32 g33 g34 g35 g36 g37 g38 g39 g40 g41 g42 g43 g44 g45 g46 g47 g48 g49 g50 g51 g52 g53 g54 g55 g56 g57 : HV⦄, rec0 y0 y3 y4 S = some p → HRun Tryd.prog base W0 β0 10 none [.inLoop c17, .inBlock 0, .code c43] ⟨[(Sl.hv y0), g1, g2, (Sl.hv y3), (.int .i64 y4), g5, g6, g7, g8, g9, g10, g11, g12, g13, g14, g15, g16, g17, g18, g19, g20, g21, g22, g23, g24, g25, g26, g27, g28, g29, g30, g31, g32, g33, g34, g35, g36, g37, g38, g39, g40, g41, g42, g43, g44, g45, g46, g47, g48, g49, g50, g51, g52, g53, g54, g55, g56, g57], []⟩ S (fun v S1 => v = (Sl.hv p.1) ∧ S1 = p.2)) {y0 : Sl} {y3 : Sl} {y4 : Int} {y5 : (List UInt8)} {y43 : Bool} {S : HS} {p : (Sl) × HS} {g1 g2 g6 g7 g8 g9 g10 g11 g12 g13 g14 g15 g16 g17 g18 g19 g20 g21 g22 g23 g24 g25 g26 g27 g28 g29 g30 g31 g32 g33 g34 g35 g36 g37 g38 g39 g40 g41 g42 g44 g45 g46 g47 g48 g49 g50 g51 g52 g53 g54 g55 g56 g57 : HV} (h : J3 k rec0 y0 y3 y4 y5 y43 S = some p) : HRun Tryd.prog base W0 β0 10 none [.inRegion r38 [13, 14, 15, 16, 17], .code c39, .inBlock 1, .code c42, .inLoop c17, .inBlock 0, .code c43] ⟨[(Sl.hv y0), g1, g2, (Sl.hv y3), (.int .i64 y4), (.str y5), g6, g7, g8, g9, g10, g11, g12, g13, g14, g15, g16, g17, g18, g19, g20, g21, g22, g23, g24, g25, g26, g27, g28, g29, g30, g31, g32, g33, g34, g35, g36, g37, g38, g39, g40, g41, g42, (.bool y43), g44, g45, g46, g47, g48, g49, g50, g51, g52, g53, g54, g55, g56, g57], []⟩ S (fun v S1 => v = (Sl.hv p.1) ∧ S1 = p.2) := by
  unfold J3 at h
  refine qS 44 rfl (ok_move · (.tmp rfl)) ?_
  rcases ifc h with ⟨hc15, h⟩ | ⟨hc15, h⟩
  · refine qG 44 45 rfl hc15 (ok_move · (.tmp rfl)) ?_
    obtain ⟨hg16, h⟩ := gd h
    refine qG 44 46 rfl hc15 (ok_slice_str (kl := .i64) (kh := .i64) (l := 1) (h := (List.length y5 : Int)) · tu9 (.tmp rfl) (.inr ⟨_, rfl, (.int _ _)⟩) (.inl ⟨rfl, rfl⟩) hg16.1 hg16.2.1 hg16.2.2) ?_
    try dsimp only [w0, w1, w2, w3]
    obtain ⟨p17, hp17, h⟩ := bindo h
    refine q_call_g (t := 44) (dst := some 47) rfl rfl rfl hc15 (.func _) (.cons (.tmp rfl) Evs.nil) (HInv.static rollcallref03_Nick.at_ rollcallref03_Nick.body (rollcallref03_Nick.snd  hp17)) ?_
    rintro _ _ ⟨rfl, rfl⟩
    refine qS 48 rfl (ok_pick_tt · (.tmp rfl) hc15 (.tmp rfl)) ?_
    refine hr_region_end ?_
    try dsimp only [w0, w1, w2, w3]
    try dsimp only [w0, w1, w2, w3]
    exact J4_snd hrec0 h
  · refine q_skip (dst := some 45) (t := 44) rfl rfl rfl (bfalse hc15) ?_
    refine q_skip (dst := some 46) (t := 44) rfl rfl rfl (bfalse hc15) ?_
    try dsimp only [w0, w1, w2, w3]
    refine q_skip (dst := some 47) (t := 44) rfl rfl rfl (bfalse hc15) ?_
    refine qS 48 rfl (ok_pick_ff · (.tmp rfl) (bfalse hc15) (.bool _)) ?_
    refine hr_region_end ?_
    try dsimp only [w0, w1, w2, w3]
    try dsimp only [w0, w1, w2, w3]
    exact J4_snd hrec0 h
def J2 (k : Nat) (rec0 : Sl → Sl → Int → HS → Option ((Sl) × HS)) (y0 : Sl) (y3 : Sl) (y4 : Int) (y5 : (List UInt8)) (y34 : Bool) (y42 : Bool) (S : HS) : Option ((Sl) × HS) :=
  (if y34 = true then
  J3 k rec0 y0 y3 y4 y5 y42 S else
  J3 k rec0 y0 y3 y4 y5 false S)
theorem J2_snd {k : Nat} {rec0 : Sl → Sl → Int → HS → Option ((Sl) × HS)} (hrec0 : ∀ ⦃y0 : Sl⦄ ⦃y3 : Sl⦄ ⦃y4 : Int⦄ ⦃S : HS⦄ ⦃p : (Sl) × HS⦄ ⦃g1 g2 g5 g6 g7 g8 g9 g10 g11 g12 g13 g14 g15 g16 g17 g18 g19 g20 g21 g22 g23 g24 g25 g26 g27 g28 g29 g30 g31 g32 g33 g34 g35 g36 g37 g38 g39 g40 g41 g42 g43 g44 g45 g46 g47 g48 g49 g50 g51 g52 g53 g54 g55 g56 g57 : HV⦄, rec0 y0 y3 y4 S = some p → HRun Tryd.prog base W0 β0 10 none [.inLoop c17, .inBlock 0, .code c43] ⟨[(Sl.hv y0), g1, g2, (Sl.hv y3), (.int .i64 y4), g5, g6, g7, g8, g9, g10, g11, g12, g13, g14, g15, g16, g17, g18, g19, g20, g21, g22, g23, g24, g25, g26, g27, g28, g29, g30, g31, g32, g33, g34, g35, g36, g37, g38, g39, g40, g41, g42, g43, g44, g45, g46, g47, g48, g49, g50, g51, g52, g53, g54, g55, g56, g57], []⟩ S (fun v S1 => v = (Sl.hv p.1) ∧ S1 = p.2)) {y0 : Sl} {y3 : Sl} {y4 : Int} {y5 : (List UInt8)} {y34 : Bool} {y42 : Bool} {S : HS} {p : (Sl) × HS} {g1 g2 g6 g7 g8 g9 g10 g11 g12 g13 g14 g15 g16 g17 g18 g19 g20 g21 g22 g23 g24 g25 g26 g27 g28 g29 g30 g31 g32 g33 g35 g36 g37 g38 g39 g40 g41 g43 g44 g45 g46 g47 g48 g49 g50 g51 g52 g53 g54 g55 g56 g57 : HV} (h : J2 k rec0 y0 y3 y4 y5 y34 y42 S = some p) : HRun Tryd.prog base W0 β0 10 none [.inRegion r38 [12, 13, 14, 15, 16, 17], .code c39, .inBlock 1, .code c42, .inLoop c17, .inBlock 0, .code c43] ⟨[(Sl.hv y0), g1, g2, (Sl.hv y3), (.int .i64 y4), (.str y5), g6, g7, g8, g9, g10, g11, g12, g13, g14, g15, g16, g17, g18, g19, g20, g21, g22, g23, g24, g25, g26, g27, g28, g29, g30, g31, g32, g33, (.bool y34), g35, g36, g37, g38, g39, g40, g41, (.bool y42), g43, g44, g45, g46, g47, g48, g49, g50, g51, g52, g53, g54, g55, g56, g57], []⟩ S (fun v S1 => v = (Sl.hv p.1) ∧ S1 = p.2) := by
  unfold J2 at h
  rcases ifc h with ⟨hc14, h⟩ | ⟨hc14, h⟩
  · refine qS 43 rfl (ok_pick_tt · (.tmp rfl) hc14 (.tmp rfl)) ?_
    try dsimp only [w0, w1, w2, w3]
    exact J3_snd hrec0 h
  · refine qS 43 rfl (ok_pick_ff · (.tmp rfl) (bfalse hc14) (.bool _)) ?_
    try dsimp only [w0, w1, w2, w3]
    exact J3_snd hrec0 h
def L0 (k : Nat) : Nat → Sl → Sl → Int → HS → Option ((Sl) × HS)
  | 0, _, _, _, _ => none
  | n + 1, y0, y3, y4, S =>
    (if y4 < (Sl.len y0 : Int) then
    (Option.bind (HS.idx S y0 y4 1) fun p4 =>
    (Option.bind (HS.ldS S p4) fun p5 =>
    (Option.bind (rollcallref21_letter.f k p5) fun p6 =>
    (if (!decide (p6 = 0)) = true then
    (letv (HS.lit S [[(.int .u8 p6), (.str [])]] 2) fun p8 =>
    (Option.bind (HS.rows (p8.2) (p8.1) 2) fun p9 =>
    (Option.bind (HS.app (p8.2) y3 p9 2) fun p10 =>
    J1 k (L0 k n) y0 (p10.1) y4 (p10.2)))) else
    (if (List.length p5 : Int) > 1 then
    (Option.bind (sat p5 0) fun p12 =>
    (if (UInt8.toNat p12 : Int) = 43 then
    J2 k (L0 k n) y0 y3 y4 p5 (decide ((List.length p5 : Int) > 1)) true S else
    (Option.bind (sat p5 0) fun p24 =>
    J2 k (L0 k n) y0 y3 y4 p5 (decide ((List.length p5 : Int) > 1)) (decide ((UInt8.toNat p24 : Int) = 45)) S))) else
    J3 k (L0 k n) y0 y3 y4 p5 false S))))) else
    some (y3, S))
theorem L0_snd {k : Nat}  : ∀ {n : Nat} ⦃y0 : Sl⦄ ⦃y3 : Sl⦄ ⦃y4 : Int⦄ ⦃S : HS⦄ ⦃p : (Sl) × HS⦄ ⦃g1 g2 g5 g6 g7 g8 g9 g10 g11 g12 g13 g14 g15 g16 g17 g18 g19 g20 g21 g22 g23 g24 g25 g26 g27 g28 g29 g30 g31 g32 g33 g34 g35 g36 g37 g38 g39 g40 g41 g42 g43 g44 g45 g46 g47 g48 g49 g50 g51 g52 g53 g54 g55 g56 g57 : HV⦄, L0 k n y0 y3 y4 S = some p → HRun Tryd.prog base W0 β0 10 none [.inLoop c17, .inBlock 0, .code c43] ⟨[(Sl.hv y0), g1, g2, (Sl.hv y3), (.int .i64 y4), g5, g6, g7, g8, g9, g10, g11, g12, g13, g14, g15, g16, g17, g18, g19, g20, g21, g22, g23, g24, g25, g26, g27, g28, g29, g30, g31, g32, g33, g34, g35, g36, g37, g38, g39, g40, g41, g42, g43, g44, g45, g46, g47, g48, g49, g50, g51, g52, g53, g54, g55, g56, g57], []⟩ S (fun v S1 => v = (Sl.hv p.1) ∧ S1 = p.2) := by
  intro n
  induction n with
  | zero => intro _ _ _ _ _ _ _ _ _ _ _ _ _ _ _ _ _ _ _ _ _ _ _ _ _ _ _ _ _ _ _ _ _ _ _ _ _ _ _ _ _ _ _ _ _ _ _ _ _ _ _ _ _ _ _ _ _ _ _ _ h; cases h
  | succ n ih =>
    intro y0 y3 y4 S p g1 g2 g5 g6 g7 g8 g9 g10 g11 g12 g13 g14 g15 g16 g17 g18 g19 g20 g21 g22 g23 g24 g25 g26 g27 g28 g29 g30 g31 g32 g33 g34 g35 g36 g37 g38 g39 g40 g41 g42 g43 g44 g45 g46 g47 g48 g49 g50 g51 g52 g53 g54 g55 g56 g57 h
    simp only [L0] at h
    refine hr_inLoop ?_
    refine q_seq rfl ?_
    refine q_seq rfl ?_
    refine q_region rfl rfl ?_
    refine qS 12 rfl (ok_move · (.tmp rfl)) ?_
    refine qS 13 rfl (ok_move · (.tmp rfl)) ?_
    refine qS 14 rfl (ok_len_sl (q := Sl.a y0) (n := Sl.len y0) (z := Sl.cap y0) · rfl tu22 (.tmp rfl)) ?_
    refine qS 15 rfl (ok_ibin · (.tmp rfl) (.tmp rfl) rfl) ?_
    refine hr_region_end ?_
    try dsimp only [w0, w1, w2, w3]
    rcases ifc h with ⟨hc3, h⟩ | ⟨hc3, h⟩
    · refine q_cond_t rfl (.tmp rfl) (decide_eq_true hc3) ?_
      refine q_skipc rfl ?_
      refine q_seq rfl ?_
      refine q_block rfl ?_
      refine q_seq rfl ?_
      refine q_region rfl rfl ?_
      refine qS 18 rfl (ok_move · (.tmp rfl)) ?_
      refine qS 19 rfl (ok_move · (.tmp rfl)) ?_
      obtain ⟨p4, hp4, h⟩ := bindo h
      refine qS 20 rfl (ok_indexAddr (s := y0) · tu22 sz9 (.tmp rfl) (.tmp rfl) hp4) ?_
      obtain ⟨p5, hp5, h⟩ := bindo h
      refine qS 21 rfl (ok_load_s · sc9 (.tmp rfl) rfl (ldS_out hp5)) ?_
      try dsimp only [w0, w1, w2, w3]
      refine qS 5 rfl (ok_assign · (.tmp rfl)) ?_
      refine hr_region_end ?_
      try dsimp only [w0, w1, w2, w3]
      refine q_seq rfl ?_
      refine q_seq rfl ?_
      refine q_region rfl rfl ?_
      refine qS 22 rfl (ok_move · (.tmp rfl)) ?_
      obtain ⟨p6, hp6, h⟩ := bindo h
      refine q_call (dst := some 23) rfl (.func _) (.cons (.tmp rfl) Evs.nil) (HInv.static rollcallref21_letter.at_ rollcallref21_letter.body (rollcallref21_letter.snd  hp6)) ?_
      rintro _ _ ⟨rfl, rfl⟩
      refine qS 6 rfl (ok_assign · (.tmp rfl)) ?_
      refine hr_region_end ?_
      try dsimp only [w0, w1, w2, w3]
      refine q_seq rfl ?_
      refine q_region rfl rfl ?_
      refine qS 24 rfl (ok_move · (.tmp rfl)) ?_
      refine qS 25 rfl (ok_ibin · (.tmp rfl) (.int _ _) rfl) ?_
      refine hr_region_end ?_
      try dsimp only [w0, w1, w2, w3]
      rcases ifc h with ⟨hc7, h⟩ | ⟨hc7, h⟩
      · refine q_cond_t rfl (.tmp rfl) hc7 ?_
        refine q_seq rfl ?_
        refine q_region rfl rfl ?_
        refine qS 26 rfl (ok_move · (.tmp rfl)) ?_
        refine qS 27 rfl (ok_move · (.tmp rfl)) ?_
        refine qS 28 rfl (ok_build (is := [0]) (xs := [(.tmp 27)]) (r := [(.int .u8 p6), (.str [])]) st30 · rfl rfl (.cons (.tmp rfl) Evs.nil) rfl) ?_
        obtain ⟨p8, hp8, h⟩ := leto h
        refine qS 29 rfl (ok_buildSlice_s (xs := [(.tmp 28)]) el26 · rfl rfl (by decide) (.cons (.tmp rfl) Evs.nil) rfl rfl hp8) ?_
        try dsimp only [w0, w1, w2, w3]
        obtain ⟨p9, hp9, h⟩ := bindo h
        obtain ⟨p10, hp10, h⟩ := bindo h
        refine qS 30 rfl (ok_append (s := y3) (s1 := (p8.1)) el26 · rfl rfl ⟨_, tu26⟩ (.tmp rfl) (.tmp rfl) hp9 hp10) ?_
        refine qS 3 rfl (ok_assign · (.tmp rfl)) ?_
        refine hr_region_end ?_
        try dsimp only [w0, w1, w2, w3]
        refine q_exit rfl rfl ?_
        try dsimp only [w0, w1, w2, w3]
        exact J1_snd ih h
      · refine q_cond_f rfl (.tmp rfl) (bfalse hc7) ?_
        refine q_skipc rfl ?_
        refine q_seq rfl ?_
        refine q_region rfl rfl ?_
        refine qS 31 rfl (ok_move · (.tmp rfl)) ?_
        refine qS 32 rfl (ok_len_str · rfl tu9 (.tmp rfl)) ?_
        refine qS 33 rfl (ok_ibin · (.tmp rfl) (.int _ _) rfl) ?_
        refine qS 34 rfl (ok_move · (.tmp rfl)) ?_
        try dsimp only [w0, w1, w2, w3]
        rcases ifc h with ⟨hc11, h⟩ | ⟨hc11, h⟩
        · refine qG 34 35 rfl (decide_eq_true hc11) (ok_move · (.tmp rfl)) ?_
          obtain ⟨p12, hp12, h⟩ := bindo h
          refine qG 34 36 rfl (decide_eq_true hc11) (ok_index_s · tu9 (.tmp rfl) (.int _ _) hp12) ?_
          refine qG 34 37 rfl (decide_eq_true hc11) (ok_ibin · (.tmp rfl) (.int _ _) rfl) ?_
          refine qG 34 38 rfl (decide_eq_true hc11) (ok_move · (.tmp rfl)) ?_
          try dsimp only [w0, w1, w2, w3]
          rcases ifc h with ⟨hc13, h⟩ | ⟨hc13, h⟩
          · refine q_skip (dst := some 39) (t := 38) rfl rfl rfl (decide_eq_true hc13) ?_
            refine q_skip (dst := some 40) (t := 38) rfl rfl rfl (decide_eq_true hc13) ?_
            refine q_skip (dst := some 41) (t := 38) rfl rfl rfl (decide_eq_true hc13) ?_
            refine qG 34 42 rfl (decide_eq_true hc11) (ok_pick_tt · (.tmp rfl) (decide_eq_true hc13) (.bool _)) ?_
            try dsimp only [w0, w1, w2, w3]
            try dsimp only [w0, w1, w2, w3]
            exact J2_snd ih h
          · refine qG 38 39 rfl (decide_eq_false hc13) (ok_move · (.tmp rfl)) ?_
            obtain ⟨p24, hp24, h⟩ := bindo h
            refine qG 38 40 rfl (decide_eq_false hc13) (ok_index_s · tu9 (.tmp rfl) (.int _ _) hp24) ?_
            refine qG 38 41 rfl (decide_eq_false hc13) (ok_ibin · (.tmp rfl) (.int _ _) rfl) ?_
            refine qG 34 42 rfl (decide_eq_true hc11) (ok_pick_ff · (.tmp rfl) (decide_eq_false hc13) (.tmp rfl)) ?_
            try dsimp only [w0, w1, w2, w3]
            try dsimp only [w0, w1, w2, w3]
            exact J2_snd ih h
        · refine q_skip (dst := some 35) (t := 34) rfl rfl rfl (decide_eq_false hc11) ?_
          refine q_skip (dst := some 36) (t := 34) rfl rfl rfl (decide_eq_false hc11) ?_
          refine q_skip (dst := some 37) (t := 34) rfl rfl rfl (decide_eq_false hc11) ?_
          refine q_skip (dst := some 38) (t := 34) rfl rfl rfl (decide_eq_false hc11) ?_
          try dsimp only [w0, w1, w2, w3]
          refine q_skip_u (dst := some 39) (t := 38) rfl rfl rfl ?_
          refine q_skip_u (dst := some 40) (t := 38) rfl rfl rfl ?_
          refine q_skip_u (dst := some 41) (t := 38) rfl rfl rfl ?_
          refine q_skip (dst := some 42) (t := 34) rfl rfl rfl (decide_eq_false hc11) ?_
          try dsimp only [w0, w1, w2, w3]
          refine qS 43 rfl (ok_pick_ff · (.tmp rfl) (decide_eq_false hc11) (.bool _)) ?_
          try dsimp only [w0, w1, w2, w3]
          exact J3_snd ih h
    · refine q_cond_f rfl (.tmp rfl) (decide_eq_false hc3) ?_
      refine q_exit rfl rfl ?_
      refine q_seq rfl ?_
      refine q_region rfl rfl ?_
      refine qS 57 rfl (ok_move · (.tmp rfl)) ?_
      refine qS 2 rfl (ok_assign · (.tmp rfl)) ?_
      refine hr_region_end ?_
      try dsimp only [w0, w1, w2, w3]
      cases h
      exact q_ret rfl at_.at_ rfl (res1 rfl rfl) ⟨rfl, rfl⟩
def f (k : Nat) (x0 : Sl) (S : HS) : Option ((Sl) × HS) :=
  (if (Sl.len x0 : Int) = 0 then
  (letv (HS.lit S [[(.int .u8 76), (.str [])]] 2) fun p2 =>
  some ((p2.1), (p2.2))) else
  L0 k k x0 Sl.nil 0 S)
theorem snd {k : Nat} {x0 : Sl} {S : HS}  {p : (Sl) × HS} (h : f k x0 S = some p) : HCall Tryd.prog base W0 β0 10 [(Sl.hv x0)] S (fun v S1 => v = (Sl.hv p.1) ∧ S1 = p.2) := by
  unfold f at h
  refine HCall.of_run at_.at_ body ?_
  show HRun Tryd.prog base W0 β0 10 none [.code c0] ⟨[(Sl.hv x0), τ, τ, τ, τ, τ, τ, τ, τ, τ, τ, τ, τ, τ, τ, τ, τ, τ, τ, τ, τ, τ, τ, τ, τ, τ, τ, τ, τ, τ, τ, τ, τ, τ, τ, τ, τ, τ, τ, τ, τ, τ, τ, τ, τ, τ, τ, τ, τ, τ, τ, τ, τ, τ, τ, τ, τ, τ], []⟩ S _
  refine q_seq rfl ?_
  refine q_region rfl rfl ?_
  refine qS 2 rfl (ok_assign · (.const fun _ => .slNil none)) ?_
  refine hr_region_end ?_
  try dsimp only [w0, w1, w2, w3]
  refine q_seq rfl ?_
  refine q_seq rfl ?_
  refine q_region rfl rfl ?_
  refine qS 7 rfl (ok_move · (.tmp rfl)) ?_
  refine qS 8 rfl (ok_len_sl (q := Sl.a x0) (n := Sl.len x0) (z := Sl.cap x0) · rfl tu22 (.tmp rfl)) ?_
  refine qS 9 rfl (ok_ibin · (.tmp rfl) (.int _ _) rfl) ?_
  refine hr_region_end ?_
  try dsimp only [w0, w1, w2, w3]
  rcases ifc h with ⟨hc1, h⟩ | ⟨hc1, h⟩
  · refine q_cond_t rfl (.tmp rfl) (decide_eq_true hc1) ?_
    refine q_seq rfl ?_
    refine q_region rfl rfl ?_
    refine qS 10 rfl (ok_build (is := [0]) (xs := [(.const (.int .u8 76))]) (r := [(.int .u8 76), (.str [])]) st30 · rfl rfl (.cons (.int _ _) Evs.nil) rfl) ?_
    obtain ⟨p2, hp2, h⟩ := leto h
    refine qS 11 rfl (ok_buildSlice_s (xs := [(.tmp 10)]) el26 · rfl rfl (by decide) (.cons (.tmp rfl) Evs.nil) rfl rfl hp2) ?_
    refine qS 2 rfl (ok_assign · (.tmp rfl)) ?_
    refine hr_region_end ?_
    try dsimp only [w0, w1, w2, w3]
    cases h
    exact q_ret rfl at_.at_ rfl (res1 rfl rfl) ⟨rfl, rfl⟩
  · refine q_cond_f rfl (.tmp rfl) (decide_eq_false hc1) ?_
    refine q_skipc rfl ?_
    refine q_seq rfl ?_
    refine q_region rfl rfl ?_
    refine qS 3 rfl (ok_assign · (.const fun _ => .slNil none)) ?_
    refine hr_region_end ?_
    try dsimp only [w0, w1, w2, w3]
    refine q_seq rfl ?_
    refine q_seq rfl ?_
    refine q_region rfl rfl ?_
    refine qS 4 rfl (ok_assign · (.int _ _)) ?_
    refine hr_region_end ?_
    try dsimp only [w0, w1, w2, w3]
    refine q_block rfl ?_
    refine q_loop rfl ?_
    try dsimp only [w0, w1, w2, w3]
    exact L0_snd  h
end
end rollcallref21_Watch
end Go.Proofs.YtcphapfclncggaaDoor.X
