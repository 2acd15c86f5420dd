/- Functions of the program, each as a Lean function over the layer HL: a call answers what the Lean function answers, where it answers. -/
import Derived.Test.YtgplnlknejbglaaDoorProg
import Derived.Test.YtgplnlknejbglaaDoorGlM2
namespace Go.Proofs.YtgplnlknejbglaaDoor.X
open Go.Proofs.YtgplnlknejbglaaDoor.HL
set_option linter.unusedVariables false
set_option linter.unusedSimpArgs false
set_option maxRecDepth 20000
set_option maxHeartbeats 4000000
namespace rollcallref04_Cut
theorem at_ : FnAt Tryd.prog 17 Tryd.f17 := ⟨Tryd.func17, by kernel_rfl⟩
noncomputable def d0 := (Tryd.f17.body).getD .skip
noncomputable def r1 := kR (kA d0)
noncomputable def r3 := kR (kA (kB d0))
noncomputable def r6 := kR (kA (kA (kB (kB d0))))
noncomputable def r9 := kR (kA (kA (kB (kA (kB (kB d0))))))
noncomputable def d12 := kB (kB (kB d0))
noncomputable def r13 := kR (kA d12)
noncomputable def r16 := kR (kA (kA (kB d12)))
noncomputable def r19 := kR (kA (kA (kB (kA (kB d12)))))
noncomputable def r23 := kR (kA (kB (kB d12)))
noncomputable def c22 : Code := .seq (.region 7 r23 true) .ret
noncomputable def c17 : Code := .cond (.tmp 32) (.seq (.region 6 r19 false) .ret) .skip
noncomputable def c0 : Code := .seq (.region 0 r1 false) (.seq (.region 1 r3 false) (.seq (.seq (.region 2 r6 false) (.cond (.tmp 11) (.seq (.region 3 r9 false) .ret) .skip)) (.seq (.region 4 r13 false) (.seq (.seq (.region 5 r16 false) c17) c22))))
theorem body : Tryd.f17.body = some c0 := by kernel_rfl
section
variable {base : Nat} {W0 : World} {β0 : Bt}
def J1 (k : Nat) (y0 : (List UInt8)) (y6 : Int) (y7 : Int) (y32 : Bool) : Option ((List UInt8) × (List UInt8) × (List UInt8) × Bool) :=
  (if y32 = true then
  some (([] : List UInt8), ([] : List UInt8), ([] : List UInt8), false) else
  (if 0 ≤ (0 : Int) ∧ (0 : Int) ≤ y6 ∧ (y6 : Int) ≤ (List.length y0 : Int) then
  (if 0 ≤ ((w64 (y6 + 1)) : Int) ∧ ((w64 (y6 + 1)) : Int) ≤ y7 ∧ (y7 : Int) ≤ (List.length y0 : Int) then
  (if 0 ≤ ((w64 (y7 + 1)) : Int) ∧ ((w64 (y7 + 1)) : Int) ≤ (List.length y0 : Int) ∧ ((List.length y0 : Int) : Int) ≤ (List.length y0 : Int) then
  some ((ssub y0 0 y6), (ssub y0 (w64 (y6 + 1)) y7), (ssub y0 (w64 (y7 + 1)) (List.length y0 : Int)), true) else none) else none) else none))
theorem J1_snd {k : Nat}  {y0 : (List UInt8)} {y6 : Int} {y7 : Int} {y32 : Bool} {S : HS} {p : (List UInt8) × (List UInt8) × (List UInt8) × Bool} {g1 g2 g3 g4 g5 g8 g9 g10 g11 g12 g13 g14 g15 g16 g17 g18 g19 g20 g21 g22 g23 g24 g25 g26 g27 g28 g29 g30 g31 g33 g34 g35 g36 g37 g38 g39 g40 g41 g42 g43 g44 : HV} (h : J1 k y0 y6 y7 y32 = some p) : HRun Tryd.prog base W0 β0 17 none [.code c17, .code c22] ⟨[(.str y0), g1, g2, g3, g4, g5, (.int .i64 y6), (.int .i64 y7), g8, g9, g10, g11, g12, g13, g14, g15, g16, g17, g18, g19, g20, g21, g22, g23, g24, g25, g26, g27, g28, g29, g30, g31, (.bool y32), g33, g34, g35, g36, g37, g38, g39, g40, g41, g42, g43, g44], []⟩ S (fun v S1 => v = (.tup [(.str p.1), (.str p.2.1), (.str p.2.2.1), (.bool p.2.2.2)]) ∧ S1 = S) := by
  unfold J1 at h
  rcases ifc h with ⟨hc6, h⟩ | ⟨hc6, h⟩
  · refine q_cond_t rfl (.tmp rfl) hc6 ?_
    refine q_seq rfl ?_
    refine q_region rfl rfl ?_
    refine qS 2 rfl (ok_assign · (.str _)) ?_
    refine qS 3 rfl (ok_assign · (.str _)) ?_
    refine qS 4 rfl (ok_assign · (.str _)) ?_
    refine qS 5 rfl (ok_assign · (.bool _)) ?_
    refine hr_region_end ?_
    try dsimp only [w0, w1, w2, w3]
    cases h
    exact q_ret rfl at_.at_ rfl (res4 rfl rfl rfl rfl rfl) ⟨rfl, rfl⟩
  · refine q_cond_f rfl (.tmp rfl) (bfalse hc6) ?_
    refine q_skipc rfl ?_
    refine q_seq rfl ?_
    refine x_start (cls := [0, 0, 0, 0, 0, 0, 0, 0, 0, 0, 0, 0, 0, 0, 0, 0]) (rk := [0, 1, 2, 3, 4, 5, 6, 7, 8, 9, 10, 11, 12, 13, 14, 15]) rfl (by kernel_rfl) ?_
    refine yf 33 [0] rfl (ok_move · (.tmp rfl)) ?_
    refine yf 34 [6] rfl (ok_move · (.tmp rfl)) ?_
    obtain ⟨hg7, h⟩ := gd h
    refine yf 35 [33, 34] rfl (ok_slice_str (kl := .i64) (kh := .i64) (l := 0) (h := y6) · tu9 (.tmp rfl) (.inl ⟨rfl, rfl⟩) (.inr ⟨_, rfl, (.tmp rfl)⟩) hg7.1 hg7.2.1 hg7.2.2) ?_
    refine yf 36 [0] rfl (ok_move · (.tmp rfl)) ?_
    try dsimp only [w0, w1, w2, w3]
    refine yf 37 [6] rfl (ok_move · (.tmp rfl)) ?_
    refine yf 38 [37] rfl (ok_ibin · (.tmp rfl) (.int _ _) rfl) ?_
    refine yf 39 [7] rfl (ok_move · (.tmp rfl)) ?_
    obtain ⟨hg8, h⟩ := gd h
    refine yf 40 [36, 38, 39] rfl (ok_slice_str (kl := .i64) (kh := .i64) (l := (w64 (y6 + 1))) (h := y7) · tu9 (.tmp rfl) (.inr ⟨_, rfl, (.tmp rfl)⟩) (.inr ⟨_, rfl, (.tmp rfl)⟩) hg8.1 hg8.2.1 hg8.2.2) ?_
    try dsimp only [w0, w1, w2, w3]
    refine yf 41 [0] rfl (ok_move · (.tmp rfl)) ?_
    refine yf 42 [7] rfl (ok_move · (.tmp rfl)) ?_
    refine yf 43 [42] rfl (ok_ibin · (.tmp rfl) (.int _ _) rfl) ?_
    obtain ⟨hg9, h⟩ := gd h
    refine yf 44 [41, 43] rfl (ok_slice_str (kl := .i64) (kh := .i64) (l := (w64 (y7 + 1))) (h := (List.length y0 : Int)) · tu9 (.tmp rfl) (.inr ⟨_, rfl, (.tmp rfl)⟩) (.inl ⟨rfl, rfl⟩) hg9.1 hg9.2.1 hg9.2.2) ?_
    try dsimp only [w0, w1, w2, w3]
    refine yf 2 [35] rfl (ok_assign · (.tmp rfl)) ?_
    refine yf 3 [40] rfl (ok_assign · (.tmp rfl)) ?_
    refine yf 4 [44] rfl (ok_assign · (.tmp rfl)) ?_
    refine yf 5 [] rfl (ok_assign · (.bool _)) ?_
    refine x_rest rfl ?_
    refine hr_region_end ?_
    try dsimp only [w0, w1, w2, w3]
    cases h
    exact q_ret rfl at_.at_ rfl (res4 rfl rfl rfl rfl rfl) ⟨rfl, rfl⟩
def J0 (k : Nat) (y0 : (List UInt8)) (y6 : Int) (y7 : Int) (y25 : Bool) : Option ((List UInt8) × (List UInt8) × (List UInt8) × Bool) :=
  (if y25 = true then
  J1 k y0 y6 y7 true else
  (if 0 ≤ (0 : Int) ∧ (0 : Int) ≤ y6 ∧ (y6 : Int) ≤ (List.length y0 : Int) then
  (Option.bind (rollcallref04_index.f k (ssub y0 0 y6) 64 0) fun p11 =>
  J1 k y0 y6 y7 (decide (p11 ≥ 0))) else none))
theorem J0_snd {k : Nat}  {y0 : (List UInt8)} {y6 : Int} {y7 : Int} {y25 : Bool} {S : HS} {p : (List UInt8) × (List UInt8) × (List UInt8) × Bool} {g1 g2 g3 g4 g5 g8 g9 g10 g11 g12 g13 g14 g15 g16 g17 g18 g19 g20 g21 g22 g23 g24 g26 g27 g28 g29 g30 g31 g32 g33 g34 g35 g36 g37 g38 g39 g40 g41 g42 g43 g44 : HV} (h : J0 k y0 y6 y7 y25 = some p) : HRun Tryd.prog base W0 β0 17 none [.inRegion r16 [11, 12, 13, 14, 15, 16, 17], .code c17, .code c22] ⟨[(.str y0), g1, g2, g3, g4, g5, (.int .i64 y6), (.int .i64 y7), g8, g9, g10, g11, g12, g13, g14, g15, g16, g17, g18, g19, g20, g21, g22, g23, g24, (.bool y25), g26, g27, g28, g29, g30, g31, g32, g33, g34, g35, g36, g37, g38, g39, g40, g41, g42, g43, g44], []⟩ S (fun v S1 => v = (.tup [(.str p.1), (.str p.2.1), (.str p.2.2.1), (.bool p.2.2.2)]) ∧ S1 = S) := by
  unfold J0 at h
  refine qS 26 rfl (ok_move · (.tmp rfl)) ?_
  try dsimp only [w0, w1, w2, w3]
  rcases ifc h with ⟨hc5, h⟩ | ⟨hc5, h⟩
  · refine q_skip (dst := some 27) (t := 26) rfl rfl rfl hc5 ?_
    refine q_skip (dst := some 28) (t := 26) rfl rfl rfl hc5 ?_
    refine q_skip (dst := some 29) (t := 26) rfl rfl rfl hc5 ?_
    refine q_skip (dst := some 30) (t := 26) rfl rfl rfl hc5 ?_
    try dsimp only [w0, w1, w2, w3]
    refine q_skip (dst := some 31) (t := 26) rfl rfl rfl hc5 ?_
    refine qS 32 rfl (ok_pick_tt · (.tmp rfl) hc5 (.bool _)) ?_
    refine hr_region_end ?_
    try dsimp only [w0, w1, w2, w3]
    try dsimp only [w0, w1, w2, w3]
    exact J1_snd  h
  · refine qG 26 27 rfl (bfalse hc5) (ok_move · (.tmp rfl)) ?_
    refine qG 26 28 rfl (bfalse hc5) (ok_move · (.tmp rfl)) ?_
    obtain ⟨hg10, h⟩ := gd h
    refine qG 26 29 rfl (bfalse hc5) (ok_slice_str (kl := .i64) (kh := .i64) (l := 0) (h := y6) · tu9 (.tmp rfl) (.inl ⟨rfl, rfl⟩) (.inr ⟨_, rfl, (.tmp rfl)⟩) hg10.1 hg10.2.1 hg10.2.2) ?_
    obtain ⟨p11, hp11, h⟩ := bindo h
    refine q_call_g (t := 26) (dst := some 30) rfl rfl rfl (bfalse hc5) (.func _) (.cons (.tmp rfl) (.cons (.int _ _) (.cons (.int _ _) Evs.nil))) (HInv.static rollcallref04_index.at_ rollcallref04_index.body (rollcallref04_index.snd  hp11)) ?_
    rintro _ _ ⟨rfl, rfl⟩
    try dsimp only [w0, w1, w2, w3]
    refine qG 26 31 rfl (bfalse hc5) (ok_ibin · (.tmp rfl) (.int _ _) rfl) ?_
    refine qS 32 rfl (ok_pick_ff · (.tmp rfl) (bfalse hc5) (.tmp rfl)) ?_
    refine hr_region_end ?_
    try dsimp only [w0, w1, w2, w3]
    try dsimp only [w0, w1, w2, w3]
    exact J1_snd  h
def f (k : Nat) (x0 : (List UInt8)) : Option ((List UInt8) × (List UInt8) × (List UInt8) × Bool) :=
  (Option.bind (rollcallref04_index.f k x0 33 0) fun p1 =>
  (if p1 < 1 then
  some (([] : List UInt8), ([] : List UInt8), ([] : List UInt8), false) else
  (Option.bind (rollcallref04_index.f k x0 64 p1) fun p3 =>
  (if p3 < (w64 (p1 + 2)) then
  J0 k x0 p1 p3 true else
  J0 k x0 p1 p3 (decide (p3 = (w64 ((List.length x0 : Int) - 1))))))))
theorem snd {k : Nat} {x0 : (List UInt8)} {S : HS}  {p : (List UInt8) × (List UInt8) × (List UInt8) × Bool} (h : f k x0 = some p) : HCall Tryd.prog base W0 β0 17 [(.str x0)] S (fun v S1 => v = (.tup [(.str p.1), (.str p.2.1), (.str p.2.2.1), (.bool p.2.2.2)]) ∧ S1 = S) := by
  unfold f at h
  refine HCall.of_run at_.at_ body ?_
  show HRun Tryd.prog base W0 β0 17 none [.code c0] ⟨[(.str x0), τ, τ, τ, τ, τ, τ, τ, τ, τ, τ, τ, τ, τ, τ, τ, τ, τ, τ, τ, τ, τ, τ, τ, τ, τ, τ, τ, τ, τ, τ, τ, τ, τ, τ, τ, τ, τ, τ, τ, τ, τ, τ, τ, τ], []⟩ S _
  refine q_seq rfl ?_
  refine q_region rfl rfl ?_
  refine qS 2 rfl (ok_assign · (.str _)) ?_
  refine qS 3 rfl (ok_assign · (.str _)) ?_
  refine qS 4 rfl (ok_assign · (.str _)) ?_
  refine qS 5 rfl (ok_assign · (.bool _)) ?_
  refine hr_region_end ?_
  try dsimp only [w0, w1, w2, w3]
  refine q_seq rfl ?_
  refine q_region rfl rfl ?_
  refine qS 8 rfl (ok_move · (.tmp rfl)) ?_
  obtain ⟨p1, hp1, h⟩ := bindo h
  refine q_call (dst := some 9) rfl (.func _) (.cons (.tmp rfl) (.cons (.int _ _) (.cons (.int _ _) Evs.nil))) (HInv.static rollcallref04_index.at_ rollcallref04_index.body (rollcallref04_index.snd  hp1)) ?_
  rintro _ _ ⟨rfl, rfl⟩
  refine qS 6 rfl (ok_assign · (.tmp rfl)) ?_
  refine hr_region_end ?_
  try dsimp only [w0, w1, w2, w3]
  refine q_seq rfl ?_
  refine q_seq rfl ?_
  refine q_region rfl rfl ?_
  refine qS 10 rfl (ok_move · (.tmp rfl)) ?_
  refine qS 11 rfl (ok_ibin · (.tmp rfl) (.int _ _) rfl) ?_
  refine hr_region_end ?_
  try dsimp only [w0, w1, w2, w3]
  rcases ifc h with ⟨hc2, h⟩ | ⟨hc2, h⟩
  · refine q_cond_t rfl (.tmp rfl) (decide_eq_true hc2) ?_
    refine q_seq rfl ?_
    refine q_region rfl rfl ?_
    refine qS 2 rfl (ok_assign · (.str _)) ?_
    refine qS 3 rfl (ok_assign · (.str _)) ?_
    refine qS 4 rfl (ok_assign · (.str _)) ?_
    refine qS 5 rfl (ok_assign · (.bool _)) ?_
    refine hr_region_end ?_
    try dsimp only [w0, w1, w2, w3]
    cases h
    exact q_ret rfl at_.at_ rfl (res4 rfl rfl rfl rfl rfl) ⟨rfl, rfl⟩
  · refine q_cond_f rfl (.tmp rfl) (decide_eq_false hc2) ?_
    refine q_skipc rfl ?_
    refine q_seq rfl ?_
    refine q_region rfl rfl ?_
    refine qS 12 rfl (ok_move · (.tmp rfl)) ?_
    refine qS 13 rfl (ok_move · (.tmp rfl)) ?_
    obtain ⟨p3, hp3, h⟩ := bindo h
    refine q_call (dst := some 14) rfl (.func _) (.cons (.tmp rfl) (.cons (.int _ _) (.cons (.tmp rfl) Evs.nil))) (HInv.static rollcallref04_index.at_ rollcallref04_index.body (rollcallref04_index.snd  hp3)) ?_
    rintro _ _ ⟨rfl, rfl⟩
    refine qS 7 rfl (ok_assign · (.tmp rfl)) ?_
    refine hr_region_end ?_
    try dsimp only [w0, w1, w2, w3]
    refine q_seq rfl ?_
    refine q_seq rfl ?_
    refine q_region rfl rfl ?_
    refine qS 15 rfl (ok_move · (.tmp rfl)) ?_
    refine qS 16 rfl (ok_move · (.tmp rfl)) ?_
    refine qS 17 rfl (ok_ibin · (.tmp rfl) (.int _ _) rfl) ?_
    refine qS 18 rfl (ok_ibin · (.tmp rfl) (.tmp rfl) rfl) ?_
    try dsimp only [w0, w1, w2, w3]
    refine qS 19 rfl (ok_move · (.tmp rfl)) ?_
    rcases ifc h with ⟨hc4, h⟩ | ⟨hc4, h⟩
    · refine q_skip (dst := some 20) (t := 19) rfl rfl rfl (decide_eq_true hc4) ?_
      refine q_skip (dst := some 21) (t := 19) rfl rfl rfl (decide_eq_true hc4) ?_
      refine q_skip (dst := some 22) (t := 19) rfl rfl rfl (decide_eq_true hc4) ?_
      try dsimp only [w0, w1, w2, w3]
      refine q_skip (dst := some 23) (t := 19) rfl rfl rfl (decide_eq_true hc4) ?_
      refine q_skip (dst := some 24) (t := 19) rfl rfl rfl (decide_eq_true hc4) ?_
      refine qS 25 rfl (ok_pick_tt · (.tmp rfl) (decide_eq_true hc4) (.bool _)) ?_
      try dsimp only [w0, w1, w2, w3]
      exact J0_snd  h
    · refine qG 19 20 rfl (decide_eq_false hc4) (ok_move · (.tmp rfl)) ?_
      refine qG 19 21 rfl (decide_eq_false hc4) (ok_move · (.tmp rfl)) ?_
      refine qG 19 22 rfl (decide_eq_false hc4) (ok_len_str · rfl tu9 (.tmp rfl)) ?_
      try dsimp only [w0, w1, w2, w3]
      refine qG 19 23 rfl (decide_eq_false hc4) (ok_ibin · (.tmp rfl) (.int _ _) rfl) ?_
      refine qG 19 24 rfl (decide_eq_false hc4) (ok_ibin · (.tmp rfl) (.tmp rfl) rfl) ?_
      refine qS 25 rfl (ok_pick_ff · (.tmp rfl) (decide_eq_false hc4) (.tmp rfl)) ?_
      try dsimp only [w0, w1, w2, w3]
      exact J0_snd  h
end
end rollcallref04_Cut
namespace rollcalllaw04_GlobCompletes
theorem at_ : FnAt Tryd.prog 5 Tryd.f5 := ⟨Tryd.func5, by kernel_rfl⟩
noncomputable def d0 := (Tryd.f5.body).getD .skip
noncomputable def r1 := kR (kA d0)
noncomputable def r4 := kR (kA (kA (kB d0)))
noncomputable def r7 := kR (kA (kA (kB (kA (kB d0)))))
noncomputable def r12 := kR (kA (kA (kB (kB d0))))
noncomputable def r15 := kR (kA (kA (kB (kA (kB (kB d0))))))
noncomputable def d18 := kB (kB (kB d0))
noncomputable def r19 := kR (kA d18)
noncomputable def r21 := kR (kA (kB d18))
noncomputable def r23 := kR (kA (kB (kB d18)))
noncomputable def d24 := kB (kB (kB d18))
noncomputable def r26 := kR (kA (kA d24))
noncomputable def r29 := kR (kA (kA (kB (kA d24))))
noncomputable def r33 := kR (kA (kB d24))
noncomputable def r35 := kR (kA (kB (kB d24)))
noncomputable def c36 : Code := .ret
noncomputable def c32 : Code := .seq (.region 10 r33 false) (.seq (.region 11 r35 false) c36)
noncomputable def c27 : Code := .cond (.tmp 60) (.seq (.region 9 r29 false) .ret) .skip
noncomputable def c0 : Code := .seq (.region 0 r1 false) (.seq (.seq (.region 1 r4 false) (.cond (.tmp 17) (.seq (.region 2 r7 false) .ret) .skip)) (.seq (.seq (.region 3 r12 false) (.cond (.tmp 20) (.seq (.region 4 r15 false) .ret) .skip)) (.seq (.region 5 r19 false) (.seq (.region 6 r21 false) (.seq (.region 7 r23 false) (.seq (.seq (.region 8 r26 false) c27) c32))))))
theorem body : Tryd.f5.body = some c0 := by kernel_rfl
section
variable {base : Nat} {W0 : World} {β0 : Bt}
def J6 (k : Nat) (y83 : Bool) (S : HS) : Option ((Bool) × HS) :=
  some (y83, S)
theorem J6_snd {k : Nat}  {y83 : Bool} {S : HS} {p : (Bool) × HS} {g0 g1 g2 g3 g4 g5 g6 g7 g8 g9 g10 g11 g12 g13 g14 g15 g16 g17 g18 g19 g20 g21 g22 g23 g24 g25 g26 g27 g28 g29 g30 g31 g32 g33 g34 g35 g36 g37 g38 g39 g40 g41 g42 g43 g44 g45 g46 g47 g48 g49 g50 g51 g52 g53 g54 g55 g56 g57 g58 g59 g60 g61 g62 g63 g64 g65 g66 g67 g68 g69 g70 g71 g72 g73 g74 g75 g76 g77 g78 g79 g80 g81 g82 : HV} (h : J6 k y83 S = some p) : HRun Tryd.prog base W0 β0 5 none [.inRegion r35 [16], .code c36] ⟨[g0, g1, g2, g3, g4, g5, g6, g7, g8, g9, g10, g11, g12, g13, g14, g15, g16, g17, g18, g19, g20, g21, g22, g23, g24, g25, g26, g27, g28, g29, g30, g31, g32, g33, g34, g35, g36, g37, g38, g39, g40, g41, g42, g43, g44, g45, g46, g47, g48, g49, g50, g51, g52, g53, g54, g55, g56, g57, g58, g59, g60, g61, g62, g63, g64, g65, g66, g67, g68, g69, g70, g71, g72, g73, g74, g75, g76, g77, g78, g79, g80, g81, g82, (.bool y83)], []⟩ S (fun v S1 => v = (.bool p.1) ∧ S1 = p.2) := by
  unfold J6 at h
  refine qS 2 rfl (ok_assign · (.tmp rfl)) ?_
  refine hr_region_end ?_
  try dsimp only [w0, w1, w2, w3]
  cases h
  exact q_ret rfl at_.at_ rfl (res1 rfl rfl) ⟨rfl, rfl⟩
def J5 (k : Nat) (y75 : Bool) (y82 : Bool) (S : HS) : Option ((Bool) × HS) :=
  (if y75 = true then
  J6 k y82 S else
  J6 k false S)
theorem J5_snd {k : Nat}  {y75 : Bool} {y82 : Bool} {S : HS} {p : (Bool) × HS} {g0 g1 g2 g3 g4 g5 g6 g7 g8 g9 g10 g11 g12 g13 g14 g15 g16 g17 g18 g19 g20 g21 g22 g23 g24 g25 g26 g27 g28 g29 g30 g31 g32 g33 g34 g35 g36 g37 g38 g39 g40 g41 g42 g43 g44 g45 g46 g47 g48 g49 g50 g51 g52 g53 g54 g55 g56 g57 g58 g59 g60 g61 g62 g63 g64 g65 g66 g67 g68 g69 g70 g71 g72 g73 g74 g76 g77 g78 g79 g80 g81 g83 : HV} (h : J5 k y75 y82 S = some p) : HRun Tryd.prog base W0 β0 5 none [.inRegion r35 [15, 16], .code c36] ⟨[g0, g1, g2, g3, g4, g5, g6, g7, g8, g9, g10, g11, g12, g13, g14, g15, g16, g17, g18, g19, g20, g21, g22, g23, g24, g25, g26, g27, g28, g29, g30, g31, g32, g33, g34, g35, g36, g37, g38, g39, g40, g41, g42, g43, g44, g45, g46, g47, g48, g49, g50, g51, g52, g53, g54, g55, g56, g57, g58, g59, g60, g61, g62, g63, g64, g65, g66, g67, g68, g69, g70, g71, g72, g73, g74, (.bool y75), g76, g77, g78, g79, g80, g81, (.bool y82), g83], []⟩ S (fun v S1 => v = (.bool p.1) ∧ S1 = p.2) := by
  unfold J5 at h
  rcases ifc h with ⟨hc18, h⟩ | ⟨hc18, h⟩
  · refine qS 83 rfl (ok_pick_tt · (.tmp rfl) hc18 (.tmp rfl)) ?_
    try dsimp only [w0, w1, w2, w3]
    try dsimp only [w0, w1, w2, w3]
    exact J6_snd  h
  · refine qS 83 rfl (ok_pick_ff · (.tmp rfl) (bfalse hc18) (.bool _)) ?_
    try dsimp only [w0, w1, w2, w3]
    try dsimp only [w0, w1, w2, w3]
    exact J6_snd  h
def J4 (k : Nat) (y0 : (List UInt8)) (y3 : (List UInt8)) (y7 : Bool) (y74 : Bool) (S : HS) : Option ((Bool) × HS) :=
  (if y74 = true then
  (if (!y7) = true then
  J5 k y74 true S else
  J5 k y74 (decide (y3 = y0)) S) else
  J6 k false S)
theorem J4_snd {k : Nat}  {y0 : (List UInt8)} {y3 : (List UInt8)} {y7 : Bool} {y74 : Bool} {S : HS} {p : (Bool) × HS} {g1 g2 g4 g5 g6 g8 g9 g10 g11 g12 g13 g14 g15 g16 g17 g18 g19 g20 g21 g22 g23 g24 g25 g26 g27 g28 g29 g30 g31 g32 g33 g34 g35 g36 g37 g38 g39 g40 g41 g42 g43 g44 g45 g46 g47 g48 g49 g50 g51 g52 g53 g54 g55 g56 g57 g58 g59 g60 g61 g62 g63 g64 g65 g66 g67 g68 g69 g70 g71 g72 g73 g75 g76 g77 g78 g79 g80 g81 g82 g83 : HV} (h : J4 k y0 y3 y7 y74 S = some p) : HRun Tryd.prog base W0 β0 5 none [.inRegion r35 [7, 8, 9, 10, 11, 12, 13, 14, 15, 16], .code c36] ⟨[(.str y0), g1, g2, (.str y3), g4, g5, g6, (.bool y7), g8, g9, g10, g11, g12, g13, g14, g15, g16, g17, g18, g19, g20, g21, g22, g23, g24, g25, g26, g27, g28, g29, g30, g31, g32, g33, g34, g35, g36, g37, g38, g39, g40, g41, g42, g43, g44, g45, g46, g47, g48, g49, g50, g51, g52, g53, g54, g55, g56, g57, g58, g59, g60, g61, g62, g63, g64, g65, g66, g67, g68, g69, g70, g71, g72, g73, (.bool y74), g75, g76, g77, g78, g79, g80, g81, g82, g83], []⟩ S (fun v S1 => v = (.bool p.1) ∧ S1 = p.2) := by
  unfold J4 at h
  refine qS 75 rfl (ok_move · (.tmp rfl)) ?_
  try dsimp only [w0, w1, w2, w3]
  rcases ifc h with ⟨hc16, h⟩ | ⟨hc16, h⟩
  · refine qG 75 76 rfl hc16 (ok_move · (.tmp rfl)) ?_
    refine qG 75 77 rfl hc16 (ok_not · (.tmp rfl)) ?_
    refine qG 75 78 rfl hc16 (ok_move · (.tmp rfl)) ?_
    rcases ifc h with ⟨hc17, h⟩ | ⟨hc17, h⟩
    · refine q_skip (dst := some 79) (t := 78) rfl rfl rfl hc17 ?_
      try dsimp only [w0, w1, w2, w3]
      refine q_skip (dst := some 80) (t := 78) rfl rfl rfl hc17 ?_
      refine q_skip (dst := some 81) (t := 78) rfl rfl rfl hc17 ?_
      refine qG 75 82 rfl hc16 (ok_pick_tt · (.tmp rfl) hc17 (.bool _)) ?_
      try dsimp only [w0, w1, w2, w3]
      exact J5_snd  h
    · refine qG 78 79 rfl (bfalse hc17) (ok_move · (.tmp rfl)) ?_
      try dsimp only [w0, w1, w2, w3]
      refine qG 78 80 rfl (bfalse hc17) (ok_move · (.tmp rfl)) ?_
      refine qG 78 81 rfl (bfalse hc17) (ok_sbin · (.tmp rfl) (.tmp rfl) rfl) ?_
      refine qG 75 82 rfl hc16 (ok_pick_ff · (.tmp rfl) (bfalse hc17) (.tmp rfl)) ?_
      try dsimp only [w0, w1, w2, w3]
      exact J5_snd  h
  · refine q_skip (dst := some 76) (t := 75) rfl rfl rfl (bfalse hc16) ?_
    refine q_skip (dst := some 77) (t := 75) rfl rfl rfl (bfalse hc16) ?_
    refine q_skip (dst := some 78) (t := 75) rfl rfl rfl (bfalse hc16) ?_
    refine q_skip_u (dst := some 79) (t := 78) rfl rfl rfl ?_
    try dsimp only [w0, w1, w2, w3]
    refine q_skip_u (dst := some 80) (t := 78) rfl rfl rfl ?_
    refine q_skip_u (dst := some 81) (t := 78) rfl rfl rfl ?_
    refine q_skip (dst := some 82) (t := 75) rfl rfl rfl (bfalse hc16) ?_
    refine qS 83 rfl (ok_pick_ff · (.tmp rfl) (bfalse hc16) (.bool _)) ?_
    try dsimp only [w0, w1, w2, w3]
    try dsimp only [w0, w1, w2, w3]
    exact J6_snd  h
def J3 (k : Nat) (y0 : (List UInt8)) (y3 : (List UInt8)) (y7 : Bool) (y60 : Bool) (S : HS) : Option ((Bool) × HS) :=
  (if y60 = true then
  some (false, S) else
  (Option.bind (glob_Cut.f k y3 S) fun p13 =>
  (if p13.1.2.2.2 = true then
  (Option.bind (glob_Complete.f k y3 p13.2) fun p15 =>
  J4 k y0 y3 y7 (decide (p15.1 = y3)) p15.2) else
  J4 k y0 y3 y7 false p13.2)))
theorem J3_snd {k : Nat}  {y0 : (List UInt8)} {y3 : (List UInt8)} {y7 : Bool} {y60 : Bool} {S : HS} {p : (Bool) × HS} {g1 g2 g4 g5 g6 g8 g9 g10 g11 g12 g13 g14 g15 g16 g17 g18 g19 g20 g21 g22 g23 g24 g25 g26 g27 g28 g29 g30 g31 g32 g33 g34 g35 g36 g37 g38 g39 g40 g41 g42 g43 g44 g45 g46 g47 g48 g49 g50 g51 g52 g53 g54 g55 g56 g57 g58 g59 g61 g62 g63 g64 g65 g66 g67 g68 g69 g70 g71 g72 g73 g74 g75 g76 g77 g78 g79 g80 g81 g82 g83 : HV} (h : J3 k y0 y3 y7 y60 S = some p) : HRun Tryd.prog base W0 β0 5 none [.code c27, .code c32] ⟨[(.str y0), g1, g2, (.str y3), g4, g5, g6, (.bool y7), g8, g9, g10, g11, g12, g13, g14, g15, g16, g17, g18, g19, g20, g21, g22, g23, g24, g25, g26, g27, g28, g29, g30, g31, g32, g33, g34, g35, g36, g37, g38, g39, g40, g41, g42, g43, g44, g45, g46, g47, g48, g49, g50, g51, g52, g53, g54, g55, g56, g57, g58, g59, (.bool y60), g61, g62, g63, g64, g65, g66, g67, g68, g69, g70, g71, g72, g73, g74, g75, g76, g77, g78, g79, g80, g81, g82, g83], []⟩ S (fun v S1 => v = (.bool p.1) ∧ S1 = p.2) := by
  unfold J3 at h
  rcases ifc h with ⟨hc12, h⟩ | ⟨hc12, h⟩
  · refine q_cond_t rfl (.tmp rfl) hc12 ?_
    refine q_seq rfl ?_
    refine q_region rfl rfl ?_
    refine qS 2 rfl (ok_assign · (.bool _)) ?_
    refine hr_region_end ?_
    try dsimp only [w0, w1, w2, w3]
    cases h
    exact q_ret rfl at_.at_ rfl (res1 rfl rfl) ⟨rfl, rfl⟩
  · refine q_cond_f rfl (.tmp rfl) (bfalse hc12) ?_
    refine q_skipc rfl ?_
    refine q_seq rfl ?_
    refine q_region rfl rfl ?_
    refine qS 62 rfl (ok_move · (.tmp rfl)) ?_
    obtain ⟨p13, hp13, h⟩ := bindo h
    refine q_call (dst := some 63) rfl (.func _) (.cons (.tmp rfl) Evs.nil) (HInv.static glob_Cut.at_ glob_Cut.body (glob_Cut.snd  hp13)) ?_
    rintro _ _ ⟨rfl, rfl⟩
    refine qS 61 rfl (ok_move · (.tmp rfl)) ?_
    refine qS 64 rfl (ok_extract · (.tmp rfl) rfl) ?_
    try dsimp only [w0, w1, w2, w3]
    refine qS 65 rfl (ok_extract · (.tmp rfl) rfl) ?_
    refine qS 66 rfl (ok_extract · (.tmp rfl) rfl) ?_
    refine qS 67 rfl (ok_extract · (.tmp rfl) rfl) ?_
    refine qS 12 rfl (ok_assign · (.tmp rfl)) ?_
    try dsimp only [w0, w1, w2, w3]
    refine qS 13 rfl (ok_assign · (.tmp rfl)) ?_
    refine qS 14 rfl (ok_assign · (.tmp rfl)) ?_
    refine qS 15 rfl (ok_assign · (.tmp rfl)) ?_
    refine hr_region_end ?_
    try dsimp only [w0, w1, w2, w3]
    refine q_seq rfl ?_
    refine q_region rfl rfl ?_
    refine qS 68 rfl (ok_move · (.tmp rfl)) ?_
    refine qS 69 rfl (ok_move · (.tmp rfl)) ?_
    rcases ifc h with ⟨hc14, h⟩ | ⟨hc14, h⟩
    · refine qG 69 70 rfl hc14 (ok_move · (.tmp rfl)) ?_
      obtain ⟨p15, hp15, h⟩ := bindo h
      refine q_call_g (t := 69) (dst := some 71) rfl rfl rfl hc14 (.func _) (.cons (.tmp rfl) Evs.nil) (HInv.static glob_Complete.at_ glob_Complete.body (glob_Complete.snd  hp15)) ?_
      rintro _ _ ⟨rfl, rfl⟩
      try dsimp only [w0, w1, w2, w3]
      refine qG 69 72 rfl hc14 (ok_move · (.tmp rfl)) ?_
      refine qG 69 73 rfl hc14 (ok_sbin · (.tmp rfl) (.tmp rfl) rfl) ?_
      refine qS 74 rfl (ok_pick_tt · (.tmp rfl) hc14 (.tmp rfl)) ?_
      try dsimp only [w0, w1, w2, w3]
      exact J4_snd  h
    · refine q_skip (dst := some 70) (t := 69) rfl rfl rfl (bfalse hc14) ?_
      refine q_skip (dst := some 71) (t := 69) rfl rfl rfl (bfalse hc14) ?_
      try dsimp only [w0, w1, w2, w3]
      refine q_skip (dst := some 72) (t := 69) rfl rfl rfl (bfalse hc14) ?_
      refine q_skip (dst := some 73) (t := 69) rfl rfl rfl (bfalse hc14) ?_
      refine qS 74 rfl (ok_pick_ff · (.tmp rfl) (bfalse hc14) (.bool _)) ?_
      try dsimp only [w0, w1, w2, w3]
      exact J4_snd  h
def J2 (k : Nat) (y0 : (List UInt8)) (y3 : (List UInt8)) (y7 : Bool) (y11 : Bool) (y55 : Bool) (S : HS) : Option ((Bool) × HS) :=
  (if y55 = true then
  J3 k y0 y3 y7 true S else
  J3 k y0 y3 y7 (!(y7 == y11)) S)
theorem J2_snd {k : Nat}  {y0 : (List UInt8)} {y3 : (List UInt8)} {y7 : Bool} {y11 : Bool} {y55 : Bool} {S : HS} {p : (Bool) × HS} {g1 g2 g4 g5 g6 g8 g9 g10 g12 g13 g14 g15 g16 g17 g18 g19 g20 g21 g22 g23 g24 g25 g26 g27 g28 g29 g30 g31 g32 g33 g34 g35 g36 g37 g38 g39 g40 g41 g42 g43 g44 g45 g46 g47 g48 g49 g50 g51 g52 g53 g54 g56 g57 g58 g59 g60 g61 g62 g63 g64 g65 g66 g67 g68 g69 g70 g71 g72 g73 g74 g75 g76 g77 g78 g79 g80 g81 g82 g83 : HV} (h : J2 k y0 y3 y7 y11 y55 S = some p) : HRun Tryd.prog base W0 β0 5 none [.inRegion r26 [19, 20, 21, 22, 23], .code c27, .code c32] ⟨[(.str y0), g1, g2, (.str y3), g4, g5, g6, (.bool y7), g8, g9, g10, (.bool y11), g12, g13, g14, g15, g16, g17, g18, g19, g20, g21, g22, g23, g24, g25, g26, g27, g28, g29, g30, g31, g32, g33, g34, g35, g36, g37, g38, g39, g40, g41, g42, g43, g44, g45, g46, g47, g48, g49, g50, g51, g52, g53, g54, (.bool y55), g56, g57, g58, g59, g60, g61, g62, g63, g64, g65, g66, g67, g68, g69, g70, g71, g72, g73, g74, g75, g76, g77, g78, g79, g80, g81, g82, g83], []⟩ S (fun v S1 => v = (.bool p.1) ∧ S1 = p.2) := by
  unfold J2 at h
  refine qS 56 rfl (ok_move · (.tmp rfl)) ?_
  try dsimp only [w0, w1, w2, w3]
  rcases ifc h with ⟨hc11, h⟩ | ⟨hc11, h⟩
  · refine q_skip (dst := some 57) (t := 56) rfl rfl rfl hc11 ?_
    refine q_skip (dst := some 58) (t := 56) rfl rfl rfl hc11 ?_
    refine q_skip (dst := some 59) (t := 56) rfl rfl rfl hc11 ?_
    refine qS 60 rfl (ok_pick_tt · (.tmp rfl) hc11 (.bool _)) ?_
    refine hr_region_end ?_
    try dsimp only [w0, w1, w2, w3]
    try dsimp only [w0, w1, w2, w3]
    exact J3_snd  h
  · refine qG 56 57 rfl (bfalse hc11) (ok_move · (.tmp rfl)) ?_
    refine qG 56 58 rfl (bfalse hc11) (ok_move · (.tmp rfl)) ?_
    refine qG 56 59 rfl (bfalse hc11) (ok_beq · tu4 (.inr ⟨rfl, rfl⟩) (.tmp rfl) (.tmp rfl)) ?_
    refine qS 60 rfl (ok_pick_ff · (.tmp rfl) (bfalse hc11) (.tmp rfl)) ?_
    refine hr_region_end ?_
    try dsimp only [w0, w1, w2, w3]
    try dsimp only [w0, w1, w2, w3]
    exact J3_snd  h
def J1 (k : Nat) (y0 : (List UInt8)) (y3 : (List UInt8)) (y6 : (List UInt8)) (y7 : Bool) (y10 : (List UInt8)) (y11 : Bool) (y50 : Bool) (S : HS) : Option ((Bool) × HS) :=
  (if y50 = true then
  J2 k y0 y3 y7 y11 true S else
  J2 k y0 y3 y7 y11 (!decide (y6 = y10)) S)
theorem J1_snd {k : Nat}  {y0 : (List UInt8)} {y3 : (List UInt8)} {y6 : (List UInt8)} {y7 : Bool} {y10 : (List UInt8)} {y11 : Bool} {y50 : Bool} {S : HS} {p : (Bool) × HS} {g1 g2 g4 g5 g8 g9 g12 g13 g14 g15 g16 g17 g18 g19 g20 g21 g22 g23 g24 g25 g26 g27 g28 g29 g30 g31 g32 g33 g34 g35 g36 g37 g38 g39 g40 g41 g42 g43 g44 g45 g46 g47 g48 g49 g51 g52 g53 g54 g55 g56 g57 g58 g59 g60 g61 g62 g63 g64 g65 g66 g67 g68 g69 g70 g71 g72 g73 g74 g75 g76 g77 g78 g79 g80 g81 g82 g83 : HV} (h : J1 k y0 y3 y6 y7 y10 y11 y50 S = some p) : HRun Tryd.prog base W0 β0 5 none [.inRegion r26 [14, 15, 16, 17, 18, 19, 20, 21, 22, 23], .code c27, .code c32] ⟨[(.str y0), g1, g2, (.str y3), g4, g5, (.str y6), (.bool y7), g8, g9, (.str y10), (.bool y11), g12, g13, g14, g15, g16, g17, g18, g19, g20, g21, g22, g23, g24, g25, g26, g27, g28, g29, g30, g31, g32, g33, g34, g35, g36, g37, g38, g39, g40, g41, g42, g43, g44, g45, g46, g47, g48, g49, (.bool y50), g51, g52, g53, g54, g55, g56, g57, g58, g59, g60, g61, g62, g63, g64, g65, g66, g67, g68, g69, g70, g71, g72, g73, g74, g75, g76, g77, g78, g79, g80, g81, g82, g83], []⟩ S (fun v S1 => v = (.bool p.1) ∧ S1 = p.2) := by
  unfold J1 at h
  refine qS 51 rfl (ok_move · (.tmp rfl)) ?_
  rcases ifc h with ⟨hc10, h⟩ | ⟨hc10, h⟩
  · refine q_skip (dst := some 52) (t := 51) rfl rfl rfl hc10 ?_
    try dsimp only [w0, w1, w2, w3]
    refine q_skip (dst := some 53) (t := 51) rfl rfl rfl hc10 ?_
    refine q_skip (dst := some 54) (t := 51) rfl rfl rfl hc10 ?_
    refine qS 55 rfl (ok_pick_tt · (.tmp rfl) hc10 (.bool _)) ?_
    try dsimp only [w0, w1, w2, w3]
    exact J2_snd  h
  · refine qG 51 52 rfl (bfalse hc10) (ok_move · (.tmp rfl)) ?_
    try dsimp only [w0, w1, w2, w3]
    refine qG 51 53 rfl (bfalse hc10) (ok_move · (.tmp rfl)) ?_
    refine qG 51 54 rfl (bfalse hc10) (ok_sbin · (.tmp rfl) (.tmp rfl) rfl) ?_
    refine qS 55 rfl (ok_pick_ff · (.tmp rfl) (bfalse hc10) (.tmp rfl)) ?_
    try dsimp only [w0, w1, w2, w3]
    exact J2_snd  h
def J0 (k : Nat) (y0 : (List UInt8)) (y3 : (List UInt8)) (y5 : (List UInt8)) (y6 : (List UInt8)) (y7 : Bool) (y9 : (List UInt8)) (y10 : (List UInt8)) (y11 : Bool) (y45 : Bool) (S : HS) : Option ((Bool) × HS) :=
  (if y45 = true then
  J1 k y0 y3 y6 y7 y10 y11 true S else
  J1 k y0 y3 y6 y7 y10 y11 (!decide (y5 = y9)) S)
theorem J0_snd {k : Nat}  {y0 : (List UInt8)} {y3 : (List UInt8)} {y5 : (List UInt8)} {y6 : (List UInt8)} {y7 : Bool} {y9 : (List UInt8)} {y10 : (List UInt8)} {y11 : Bool} {y45 : Bool} {S : HS} {p : (Bool) × HS} {g1 g2 g4 g8 g12 g13 g14 g15 g16 g17 g18 g19 g20 g21 g22 g23 g24 g25 g26 g27 g28 g29 g30 g31 g32 g33 g34 g35 g36 g37 g38 g39 g40 g41 g42 g43 g44 g46 g47 g48 g49 g50 g51 g52 g53 g54 g55 g56 g57 g58 g59 g60 g61 g62 g63 g64 g65 g66 g67 g68 g69 g70 g71 g72 g73 g74 g75 g76 g77 g78 g79 g80 g81 g82 g83 : HV} (h : J0 k y0 y3 y5 y6 y7 y9 y10 y11 y45 S = some p) : HRun Tryd.prog base W0 β0 5 none [.inRegion r26 [9, 10, 11, 12, 13, 14, 15, 16, 17, 18, 19, 20, 21, 22, 23], .code c27, .code c32] ⟨[(.str y0), g1, g2, (.str y3), g4, (.str y5), (.str y6), (.bool y7), g8, (.str y9), (.str y10), (.bool y11), g12, g13, g14, g15, g16, g17, g18, g19, g20, g21, g22, g23, g24, g25, g26, g27, g28, g29, g30, g31, g32, g33, g34, g35, g36, g37, g38, g39, g40, g41, g42, g43, g44, (.bool y45), g46, g47, g48, g49, g50, g51, g52, g53, g54, g55, g56, g57, g58, g59, g60, g61, g62, g63, g64, g65, g66, g67, g68, g69, g70, g71, g72, g73, g74, g75, g76, g77, g78, g79, g80, g81, g82, g83], []⟩ S (fun v S1 => v = (.bool p.1) ∧ S1 = p.2) := by
  unfold J0 at h
  refine qS 46 rfl (ok_move · (.tmp rfl)) ?_
  rcases ifc h with ⟨hc9, h⟩ | ⟨hc9, h⟩
  · refine q_skip (dst := some 47) (t := 46) rfl rfl rfl hc9 ?_
    refine q_skip (dst := some 48) (t := 46) rfl rfl rfl hc9 ?_
    try dsimp only [w0, w1, w2, w3]
    refine q_skip (dst := some 49) (t := 46) rfl rfl rfl hc9 ?_
    refine qS 50 rfl (ok_pick_tt · (.tmp rfl) hc9 (.bool _)) ?_
    try dsimp only [w0, w1, w2, w3]
    exact J1_snd  h
  · refine qG 46 47 rfl (bfalse hc9) (ok_move · (.tmp rfl)) ?_
    refine qG 46 48 rfl (bfalse hc9) (ok_move · (.tmp rfl)) ?_
    try dsimp only [w0, w1, w2, w3]
    refine qG 46 49 rfl (bfalse hc9) (ok_sbin · (.tmp rfl) (.tmp rfl) rfl) ?_
    refine qS 50 rfl (ok_pick_ff · (.tmp rfl) (bfalse hc9) (.tmp rfl)) ?_
    try dsimp only [w0, w1, w2, w3]
    exact J1_snd  h
def f (k : Nat) (x0 : (List UInt8)) (S : HS) : Option ((Bool) × HS) :=
  (Option.bind (rollcalllaw04_awake.f k S) fun p1 =>
  (if (!p1.1) = true then
  some (false, p1.2) else
  (if (List.length x0 : Int) > 80 then
  some (true, p1.2) else
  (Option.bind (glob_Complete.f k x0 p1.2) fun p4 =>
  (Option.bind (glob_Cut.f k x0 p4.2) fun p5 =>
  (Option.bind (rollcallref04_Cut.f k x0) fun p6 =>
  (Option.bind (rollcallref04_Complete.f k x0) fun p7 =>
  (if (!decide (p4.1 = p7)) = true then
  J0 k x0 p4.1 p5.1.2.1 p5.1.2.2.1 p5.1.2.2.2 p6.2.1 p6.2.2.1 p6.2.2.2 true p5.2 else
  J0 k x0 p4.1 p5.1.2.1 p5.1.2.2.1 p5.1.2.2.2 p6.2.1 p6.2.2.1 p6.2.2.2 (!decide (p5.1.1 = p6.1)) p5.2))))))))
theorem snd {k : Nat} {x0 : (List UInt8)} {S : HS}  {p : (Bool) × HS} (h : f k x0 S = some p) : HCall Tryd.prog base W0 β0 5 [(.str x0)] S (fun v S1 => v = (.bool p.1) ∧ S1 = p.2) := by
  unfold f at h
  refine HCall.of_run at_.at_ body ?_
  show HRun Tryd.prog base W0 β0 5 none [.code c0] ⟨[(.str x0), τ, τ, τ, τ, τ, τ, τ, τ, τ, τ, τ, τ, τ, τ, τ, τ, τ, τ, τ, τ, τ, τ, τ, τ, τ, τ, τ, τ, τ, τ, τ, τ, τ, τ, τ, τ, τ, τ, τ, τ, τ, τ, τ, τ, τ, τ, τ, τ, τ, τ, τ, τ, τ, τ, τ, τ, τ, τ, τ, τ, τ, τ, τ, τ, τ, τ, τ, τ, τ, τ, τ, τ, τ, τ, τ, τ, τ, τ, τ, τ, τ, τ, τ], []⟩ S _
  refine q_seq rfl ?_
  refine q_region rfl rfl ?_
  refine qS 2 rfl (ok_assign · (.bool _)) ?_
  refine hr_region_end ?_
  try dsimp only [w0, w1, w2, w3]
  refine q_seq rfl ?_
  refine q_seq rfl ?_
  refine q_region rfl rfl ?_
  obtain ⟨p1, hp1, h⟩ := bindo h
  refine q_call (dst := some 16) rfl (.func _) Evs.nil (HInv.static rollcalllaw04_awake.at_ rollcalllaw04_awake.body (rollcalllaw04_awake.snd  hp1)) ?_
  rintro _ _ ⟨rfl, rfl⟩
  refine qS 17 rfl (ok_not · (.tmp rfl)) ?_
  refine hr_region_end ?_
  try dsimp only [w0, w1, w2, w3]
  rcases ifc h with ⟨hc2, h⟩ | ⟨hc2, h⟩
  · refine q_cond_t rfl (.tmp rfl) hc2 ?_
    refine q_seq rfl ?_
    refine q_region rfl rfl ?_
    refine qS 2 rfl (ok_assign · (.bool _)) ?_
    refine hr_region_end ?_
    try dsimp only [w0, w1, w2, w3]
    cases h
    exact q_ret rfl at_.at_ rfl (res1 rfl rfl) ⟨rfl, rfl⟩
  · refine q_cond_f rfl (.tmp rfl) (bfalse hc2) ?_
    refine q_skipc rfl ?_
    refine q_seq rfl ?_
    refine q_seq rfl ?_
    refine q_region rfl rfl ?_
    refine qS 18 rfl (ok_move · (.tmp rfl)) ?_
    refine qS 19 rfl (ok_len_str · rfl tu9 (.tmp rfl)) ?_
    refine qS 20 rfl (ok_ibin · (.tmp rfl) (.int _ _) rfl) ?_
    refine hr_region_end ?_
    try dsimp only [w0, w1, w2, w3]
    rcases ifc h with ⟨hc3, h⟩ | ⟨hc3, h⟩
    · refine q_cond_t rfl (.tmp rfl) (decide_eq_true hc3) ?_
      refine q_seq rfl ?_
      refine q_region rfl rfl ?_
      refine qS 2 rfl (ok_assign · (.bool _)) ?_
      refine hr_region_end ?_
      try dsimp only [w0, w1, w2, w3]
      cases h
      exact q_ret rfl at_.at_ rfl (res1 rfl rfl) ⟨rfl, rfl⟩
    · refine q_cond_f rfl (.tmp rfl) (decide_eq_false hc3) ?_
      refine q_skipc rfl ?_
      refine q_seq rfl ?_
      refine q_region rfl rfl ?_
      refine qS 21 rfl (ok_move · (.tmp rfl)) ?_
      obtain ⟨p4, hp4, h⟩ := bindo h
      refine q_call (dst := some 22) rfl (.func _) (.cons (.tmp rfl) Evs.nil) (HInv.static glob_Complete.at_ glob_Complete.body (glob_Complete.snd  hp4)) ?_
      rintro _ _ ⟨rfl, rfl⟩
      refine qS 3 rfl (ok_assign · (.tmp rfl)) ?_
      refine hr_region_end ?_
      try dsimp only [w0, w1, w2, w3]
      refine q_seq rfl ?_
      refine q_region rfl rfl ?_
      refine qS 24 rfl (ok_move · (.tmp rfl)) ?_
      obtain ⟨p5, hp5, h⟩ := bindo h
      refine q_call (dst := some 25) rfl (.func _) (.cons (.tmp rfl) Evs.nil) (HInv.static glob_Cut.at_ glob_Cut.body (glob_Cut.snd  hp5)) ?_
      rintro _ _ ⟨rfl, rfl⟩
      refine qS 23 rfl (ok_move · (.tmp rfl)) ?_
      refine qS 26 rfl (ok_extract · (.tmp rfl) rfl) ?_
      try dsimp only [w0, w1, w2, w3]
      refine qS 27 rfl (ok_extract · (.tmp rfl) rfl) ?_
      refine qS 28 rfl (ok_extract · (.tmp rfl) rfl) ?_
      refine qS 29 rfl (ok_extract · (.tmp rfl) rfl) ?_
      refine qS 4 rfl (ok_assign · (.tmp rfl)) ?_
      try dsimp only [w0, w1, w2, w3]
      refine qS 5 rfl (ok_assign · (.tmp rfl)) ?_
      refine qS 6 rfl (ok_assign · (.tmp rfl)) ?_
      refine qS 7 rfl (ok_assign · (.tmp rfl)) ?_
      refine hr_region_end ?_
      try dsimp only [w0, w1, w2, w3]
      refine q_seq rfl ?_
      refine q_region rfl rfl ?_
      refine qS 31 rfl (ok_move · (.tmp rfl)) ?_
      obtain ⟨p6, hp6, h⟩ := bindo h
      refine q_call (dst := some 32) rfl (.func _) (.cons (.tmp rfl) Evs.nil) (HInv.static rollcallref04_Cut.at_ rollcallref04_Cut.body (rollcallref04_Cut.snd  hp6)) ?_
      rintro _ _ ⟨rfl, rfl⟩
      refine qS 30 rfl (ok_move · (.tmp rfl)) ?_
      refine qS 33 rfl (ok_extract · (.tmp rfl) rfl) ?_
      try dsimp only [w0, w1, w2, w3]
      refine qS 34 rfl (ok_extract · (.tmp rfl) rfl) ?_
      refine qS 35 rfl (ok_extract · (.tmp rfl) rfl) ?_
      refine qS 36 rfl (ok_extract · (.tmp rfl) rfl) ?_
      refine qS 8 rfl (ok_assign · (.tmp rfl)) ?_
      try dsimp only [w0, w1, w2, w3]
      refine qS 9 rfl (ok_assign · (.tmp rfl)) ?_
      refine qS 10 rfl (ok_assign · (.tmp rfl)) ?_
      refine qS 11 rfl (ok_assign · (.tmp rfl)) ?_
      refine hr_region_end ?_
      try dsimp only [w0, w1, w2, w3]
      refine q_seq rfl ?_
      refine q_seq rfl ?_
      refine q_region rfl rfl ?_
      refine qS 37 rfl (ok_move · (.tmp rfl)) ?_
      refine qS 38 rfl (ok_move · (.tmp rfl)) ?_
      obtain ⟨p7, hp7, h⟩ := bindo h
      refine q_call (dst := some 39) rfl (.func _) (.cons (.tmp rfl) Evs.nil) (HInv.static rollcallref04_Complete.at_ rollcallref04_Complete.body (rollcallref04_Complete.snd  hp7)) ?_
      rintro _ _ ⟨rfl, rfl⟩
      refine qS 40 rfl (ok_sbin · (.tmp rfl) (.tmp rfl) rfl) ?_
      try dsimp only [w0, w1, w2, w3]
      refine qS 41 rfl (ok_move · (.tmp rfl)) ?_
      rcases ifc h with ⟨hc8, h⟩ | ⟨hc8, h⟩
      · refine q_skip (dst := some 42) (t := 41) rfl rfl rfl hc8 ?_
        refine q_skip (dst := some 43) (t := 41) rfl rfl rfl hc8 ?_
        refine q_skip (dst := some 44) (t := 41) rfl rfl rfl hc8 ?_
        try dsimp only [w0, w1, w2, w3]
        refine qS 45 rfl (ok_pick_tt · (.tmp rfl) hc8 (.bool _)) ?_
        try dsimp only [w0, w1, w2, w3]
        exact J0_snd  h
      · refine qG 41 42 rfl (bfalse hc8) (ok_move · (.tmp rfl)) ?_
        refine qG 41 43 rfl (bfalse hc8) (ok_move · (.tmp rfl)) ?_
        refine qG 41 44 rfl (bfalse hc8) (ok_sbin · (.tmp rfl) (.tmp rfl) rfl) ?_
        try dsimp only [w0, w1, w2, w3]
        refine qS 45 rfl (ok_pick_ff · (.tmp rfl) (bfalse hc8) (.tmp rfl)) ?_
        try dsimp only [w0, w1, w2, w3]
        exact J0_snd  h
end
end rollcalllaw04_GlobCompletes
end Go.Proofs.YtgplnlknejbglaaDoor.X
