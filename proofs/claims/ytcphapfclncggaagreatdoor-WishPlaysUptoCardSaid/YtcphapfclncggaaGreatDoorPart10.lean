/- Functions of the program, each as a Lean function over the layer HL: a call answers what the Lean function answers, where it answers. -/
import Derived.Test.YtcphapfclncggaaGreatDoorProg
import Derived.Test.YtcphapfclncggaaGreatDoorPart9
namespace Go.Proofs.YtcphapfclncggaaGreatDoor.X
open Go.Proofs.YtcphapfclncggaaGreatDoor.HL
set_option linter.unusedVariables false
set_option linter.unusedSimpArgs false
set_option maxRecDepth 20000
set_option maxHeartbeats 4000000
namespace valid_all
theorem at_ : FnAt Tryz.prog 54 Tryz.f54 := ⟨Tryz.func54,by kernel_rfl⟩
noncomputable def d0 := (Tryz.f54.body).getD .skip
noncomputable def r1 := kR (kA d0)
noncomputable def r4 := kR (kA (kA (kB d0)))
noncomputable def r7 := kR (kA (kA (kB (kA (kB d0)))))
noncomputable def r11 := kR (kA (kB (kB d0)))
noncomputable def d12 := kB (kB (kB d0))
noncomputable def r14 := kR (kA (kA d12))
noncomputable def d16 := kA (kB (kA d12))
noncomputable def r18 := kR (kA (kA d16))
noncomputable def d23 := kB (kB (kA d16))
noncomputable def r26 := kR (kA (kA (kA d23)))
noncomputable def r28 := kR (kA (kB (kA (kA d23))))
noncomputable def r31 := kR (kA (kA (kB (kB (kA (kA d23))))))
noncomputable def r34 := kR (kB d23)
noncomputable def r36 := kR (kA (kB d12))
noncomputable def c35 : Code := .seq (.region 10 r36 false) .ret
noncomputable def c17 : Code := .seq (.region 5 r18 false) (.seq (.cond (.tmp 25) .skip (.exit 0)) (.seq (.block 1 (.seq (.region 6 r26 false) (.seq (.region 7 r28 false) (.cond (.tmp 34) (.seq (.region 8 r31 false) .ret) .skip)))) (.region 9 r34 false)))
noncomputable def c10 : Code := .seq (.region 3 r11 false) (.seq (.seq (.region 4 r14 false) (.block 0 (.loop c17))) c35)
noncomputable def c5 : Code := .cond (.tmp 20) (.seq (.region 2 r7 false) .ret) .skip
noncomputable def c0 : Code := .seq (.region 0 r1 false) (.seq (.seq (.region 1 r4 false) c5) c10)
theorem body : Tryz.f54.body = some c0 := by kernel_rfl
section
variable {base : Nat} {W0 : World} {β0 : Bt}
def L1 (k : Nat) : Nat → (List UInt8) → Int → (Option HA) → Int → Int → HS → Option ((Bool) × HS)
 | 0,_,_,_,_,_,_ => none
 | n + 1,y0,y3,y9,y23,y24,S =>
  (if y24 < y23 then
  (Option.bind (sat y0 y24) fun p8 =>
  (Option.bind (y9) fun p9 =>
  (if 0 ≤ ((UInt8.toNat p8 : Int) : Int) ∧ ((UInt8.toNat p8 : Int) : Int) < 256 then
  (Option.bind (HS.ldI S .u16 (HA.fld p9 (Int.toNat (UInt8.toNat p8 : Int)))) fun p11 =>
  (if (iand .u16 p11 y3) = 0 then
  some (false,S) else
  (L1 k n) y0 y3 y9 y23 (w64 (y24 + 1)) S)) else none))) else
  some (true,S))
theorem L1_snd {k : Nat}  : ∀ {n : Nat} ⦃y0 : (List UInt8)⦄ ⦃y3 : Int⦄ ⦃y9 : (Option HA)⦄ ⦃y23 : Int⦄ ⦃y24 : Int⦄ ⦃S : HS⦄ ⦃p : (Bool) × HS⦄ ⦃Gb Gc Ge Gf Gg Gh Gi Gk Gl Gm Gn Go Gp Gq Gr Gs Gt Gu Gv Gw Gz Ka Kb Kc Kd Ke Kf Kg Kh Ki Kj : HV⦄,L1 k n y0 y3 y9 y23 y24 S = some p → HRun Tryz.prog base W0 β0 54 none [.inLoop c17,.inBlock 0,.code c35] ⟨[(.str y0),Gb,Gc,(.int .u16 y3),Ge,Gf,Gg,Gh,Gi,(.ptr y9),Gk,Gl,Gm,Gn,Go,Gp,Gq,Gr,Gs,Gt,Gu,Gv,Gw,(.int .i64 y23),(.int .i64 y24),Gz,Ka,Kb,Kc,Kd,Ke,Kf,Kg,Kh,Ki,Kj],[]⟩ S (fun v S1 => v = (.bool p.1) ∧ S1 = p.2) := by
 intro n
 induction n with
 | zero => intro _ _ _ _ _ _ _ _ _ _ _ _ _ _ _ _ _ _ _ _ _ _ _ _ _ _ _ _ _ _ _ _ _ _ _ _ _ _ h; cases h
 | succ n ih =>
  intro y0 y3 y9 y23 y24 S p Gb Gc Ge Gf Gg Gh Gi Gk Gl Gm Gn Go Gp Gq Gr Gs Gt Gu Gv Gw Gz Ka Kb Kc Kd Ke Kf Kg Kh Ki Kj h
  simp only [L1] at h
  refine hr_inLoop (qQ rfl (qR rfl rfl (qS 25 rfl (oB · rfl rfl rfl) (rE ?_))))
  try dsimp only [w0,w1,w2,w3]
  refine qQ rfl ?_
  rcases ifc h with ⟨hc7,h⟩ | ⟨hc7,h⟩
  ·refine q_cond_t rfl (.tmp rfl) (decide_eq_true hc7) (q_skipc rfl (qQ rfl (q_block rfl (qQ rfl (qR rfl rfl (qS 26 rfl (oM · rfl) (qS 10 rfl (oA · rfl) (rE ?_))))))))
   try dsimp only [w0,w1,w2,w3]
   obtain ⟨p8,hp8,h⟩ := bindo h
   obtain ⟨p9,hp9,h⟩ := bindo h
   obtain ⟨hg10,h⟩ := gd h
   refine qQ rfl (qR rfl rfl (qS 27 rfl (oM · rfl) (qS 28 rfl (oM · rfl) (qS 29 rfl (ok_index_s · tu9 (.tmp rfl) (.tmp rfl) hp8) (qS 30 rfl (ok_indexAddr_arr · ta107 sz94 (.tmp rfl) hp9 (.tmp rfl) hg10) ?_)))))
   try dsimp only [w0,w1,w2,w3]
   obtain ⟨p11,hp11,h⟩ := bindo h
   refine qS 31 rfl (oL · sc94 rfl rfl (ldI_out hp11)) (qS 32 rfl (oM · rfl) (qS 33 rfl (oB · rfl rfl rfl) (qS 34 rfl (oC · rfl rfl) (rE ?_))))
   try dsimp only [w0,w1,w2,w3]
   rcases ifc h with ⟨hc12,h⟩ | ⟨hc12,h⟩
   ·refine q_cond_t rfl (.tmp rfl) (decide_eq_true hc12) (qQ rfl (qR rfl rfl (qS 8 rfl (ok_assign · (.bool _)) (rE ?_))))
    try dsimp only [w0,w1,w2,w3]
    cases h
    exact q_ret rfl at_.at_ rfl (res1 rfl rfl) ⟨rfl,rfl⟩
   ·refine q_cond_f rfl (.tmp rfl) (decide_eq_false hc12) (q_skipc rfl (hr_inBlock (qR rfl rfl (qS 35 rfl (oC · rfl rfl) (qS 24 rfl (oM · rfl) (rE ?_))))))
    try dsimp only [w0,w1,w2,w3]
    try dsimp only [w0,w1,w2,w3]
    exact ih h
  ·refine q_cond_f rfl (.tmp rfl) (decide_eq_false hc7) (q_exit rfl rfl (qQ rfl (qR rfl rfl (qS 8 rfl (ok_assign · (.bool _)) (rE ?_)))))
   try dsimp only [w0,w1,w2,w3]
   cases h
   exact q_ret rfl at_.at_ rfl (res1 rfl rfl) ⟨rfl,rfl⟩
def J0 (k : Nat) (y0 : (List UInt8)) (y3 : Int) (y20 : Bool) (S : HS) : Option ((Bool) × HS) :=
 (if y20 = true then
 some (false,S) else
 (Option.bind (valid_kinds.f k S) fun p3 =>
 (letv (HS.new p3.2 (.cells 256 [List.replicate 256 (.int .u16 0)] true)) fun p4 =>
 (if List.length p3.1 = 256 ∧ List.all p3.1 HV.flat = true then
 (Option.bind (HS.sets p4 (HA.cell0 p3.2.next) p3.1) fun p6 =>
 L1 k k y0 y3 (some (HA.cell0 p3.2.next)) (List.length y0 : Int) 0 p6) else none))))
theorem J0_snd {k : Nat}  {y0 : (List UInt8)} {y3 : Int} {y20 : Bool} {S : HS} {p : (Bool) × HS} {Gb Gc Ge Gf Gg Gh Gi Gj Gk Gl Gm Gn Go Gp Gq Gr Gs Gt Gv Gw Gx Gy Gz Ka Kb Kc Kd Ke Kf Kg Kh Ki Kj : HV} (h : J0 k y0 y3 y20 S = some p) : HRun Tryz.prog base W0 β0 54 none [.code c5,.code c10] ⟨[(.str y0),Gb,Gc,(.int .u16 y3),Ge,Gf,Gg,Gh,Gi,Gj,Gk,Gl,Gm,Gn,Go,Gp,Gq,Gr,Gs,Gt,(.bool y20),Gv,Gw,Gx,Gy,Gz,Ka,Kb,Kc,Kd,Ke,Kf,Kg,Kh,Ki,Kj],[]⟩ S (fun v S1 => v = (.bool p.1) ∧ S1 = p.2) := by
 unfold J0 at h
 rcases ifc h with ⟨hc2,h⟩ | ⟨hc2,h⟩
 ·refine q_cond_t rfl (.tmp rfl) hc2 (qQ rfl (qR rfl rfl (qS 8 rfl (ok_assign · (.bool _)) (rE ?_))))
  try dsimp only [w0,w1,w2,w3]
  cases h
  exact q_ret rfl at_.at_ rfl (res1 rfl rfl) ⟨rfl,rfl⟩
 ·obtain ⟨p3,hp3,h⟩ := bindo h
  refine q_cond_f rfl (.tmp rfl) (bfalse hc2) (q_skipc rfl (qQ rfl (qR rfl rfl (q_call (dst := some 21) rfl (.func _) Evs.nil (HInv.static valid_kinds.at_ valid_kinds.body (valid_kinds.snd  hp3)) ?_))))
  rintro _ _ ⟨rfl,rfl⟩
  obtain ⟨p4,hp4,h⟩ := leto h
  obtain ⟨hg5,h⟩ := gd h
  obtain ⟨p6,hp6,h⟩ := bindo h
  refine qS 9 rfl (ok_alloc_arr · za107 (fun β => .int _ _) (by decide) rfl hp4) (qN rfl (ok_store_arr · sz107 (.tmp rfl) rfl (.tmp rfl) hg5 hp6) (rE ?_))
  try dsimp only [w0,w1,w2,w3]
  refine qQ rfl (qQ rfl (qR rfl rfl (qS 22 rfl (oM · rfl) (qS 23 rfl (ok_len_str · rfl tu9 (.tmp rfl)) (qS 24 rfl (ok_move · (.int _ _)) (rE ?_))))))
  try dsimp only [w0,w1,w2,w3]
  refine q_block rfl (q_loop rfl ?_)
  try dsimp only [w0,w1,w2,w3]
  exact L1_snd  h
def f (k : Nat) (x0 : (List UInt8)) (x1 : Int) (x2 : Int) (x3 : Int) (S : HS) : Option ((Bool) × HS) :=
 (if (List.length x0 : Int) < x1 then
 J0 k x0 x3 true S else
 J0 k x0 x3 (decide ((List.length x0 : Int) > x2)) S)
theorem snd {k : Nat} {x0 : (List UInt8)} {x1 : Int} {x2 : Int} {x3 : Int} {S : HS}  {p : (Bool) × HS} (h : f k x0 x1 x2 x3 S = some p) : HCall Tryz.prog base W0 β0 54 [(.str x0),(.int .i64 x1),(.int .i64 x2),(.int .u16 x3)] S (fun v S1 => v = (.bool p.1) ∧ S1 = p.2) := by
 unfold f at h
 refine HCall.of_run at_.at_ body ?_
 show HRun Tryz.prog base W0 β0 54 none [.code c0] ⟨[(.str x0),(.int .i64 x1),(.int .i64 x2),(.int .u16 x3),τ,τ,τ,τ,τ,τ,τ,τ,τ,τ,τ,τ,τ,τ,τ,τ,τ,τ,τ,τ,τ,τ,τ,τ,τ,τ,τ,τ,τ,τ,τ,τ],[]⟩ S _
 refine qQ rfl (qR rfl rfl (qS 8 rfl (ok_assign · (.bool _)) (rE ?_)))
 try dsimp only [w0,w1,w2,w3]
 refine qQ rfl (qQ rfl (qR rfl rfl (qS 11 rfl (oM · rfl) (qS 12 rfl (ok_len_str · rfl tu9 (.tmp rfl)) (qS 13 rfl (oM · rfl) (qS 14 rfl (oB · rfl rfl rfl) ?_))))))
 try dsimp only [w0,w1,w2,w3]
 refine qS 15 rfl (oM · rfl) ?_
 rcases ifc h with ⟨hc1,h⟩ | ⟨hc1,h⟩
 ·refine q_skip (dst := some 16) (t := 15) rfl rfl rfl (decide_eq_true hc1) (q_skip (dst := some 17) (t := 15) rfl rfl rfl (decide_eq_true hc1) (q_skip (dst := some 18) (t := 15) rfl rfl rfl (decide_eq_true hc1) ?_))
  try dsimp only [w0,w1,w2,w3]
  refine q_skip (dst := some 19) (t := 15) rfl rfl rfl (decide_eq_true hc1) (qS 20 rfl (ok_pick_tt · (.tmp rfl) (decide_eq_true hc1) (.bool _)) (rE ?_))
  try dsimp only [w0,w1,w2,w3]
  try dsimp only [w0,w1,w2,w3]
  exact J0_snd  h
 ·refine qG 15 16 rfl (decide_eq_false hc1) (oM · rfl) (qG 15 17 rfl (decide_eq_false hc1) (ok_len_str · rfl tu9 (.tmp rfl)) (qG 15 18 rfl (decide_eq_false hc1) (oM · rfl) ?_))
  try dsimp only [w0,w1,w2,w3]
  refine qG 15 19 rfl (decide_eq_false hc1) (oB · rfl rfl rfl) (qS 20 rfl (ok_pick_ff · (.tmp rfl) (decide_eq_false hc1) (.tmp rfl)) (rE ?_))
  try dsimp only [w0,w1,w2,w3]
  try dsimp only [w0,w1,w2,w3]
  exact J0_snd  h
end
end valid_all
namespace valid_Nick
theorem at_ : FnAt Tryz.prog 37 Tryz.f37 := ⟨Tryz.func37,by kernel_rfl⟩
noncomputable def d0 := (Tryz.f37.body).getD .skip
noncomputable def r1 := kR (kA d0)
noncomputable def r3 := kR (kA (kB d0))
noncomputable def c4 : Code := .ret
noncomputable def c0 : Code := .seq (.region 0 r1 false) (.seq (.region 1 r3 false) c4)
theorem body : Tryz.f37.body = some c0 := by kernel_rfl
section
variable {base : Nat} {W0 : World} {β0 : Bt}
def J0 (k : Nat) (y9 : Bool) (S : HS) : Option ((Bool) × HS) :=
 some (y9,S)
theorem J0_snd {k : Nat}  {y9 : Bool} {S : HS} {p : (Bool) × HS} {Ga Gb Gc Gd Ge Gf Gg Gh Gi : HV} (h : J0 k y9 S = some p) : HRun Tryz.prog base W0 β0 37 none [.inRegion r3 [7],.code c4] ⟨[Ga,Gb,Gc,Gd,Ge,Gf,Gg,Gh,Gi,(.bool y9)],[]⟩ S (fun v S1 => v = (.bool p.1) ∧ S1 = p.2) := by
 unfold J0 at h
 refine qS 2 rfl (oA · rfl) (rE ?_)
 try dsimp only [w0,w1,w2,w3]
 cases h
 exact q_ret rfl at_.at_ rfl (res1 rfl rfl) ⟨rfl,rfl⟩
def f (k : Nat) (x0 : (List UInt8)) (S : HS) : Option ((Bool) × HS) :=
 (Option.bind (valid_all.f k x0 1 16 2 S) fun p1 =>
 (if p1.1 = true then
 (if 0 ≤ (0 : Int) ∧ (0 : Int) ≤ 1 ∧ (1 : Int) ≤ (List.length x0 : Int) then
 (Option.bind (valid_all.f k (ssub x0 0 1) 1 1 1 p1.2) fun p4 =>
 J0 k p4.1 p4.2) else none) else
 J0 k false p1.2))
theorem snd {k : Nat} {x0 : (List UInt8)} {S : HS}  {p : (Bool) × HS} (h : f k x0 S = some p) : HCall Tryz.prog base W0 β0 37 [(.str x0)] S (fun v S1 => v = (.bool p.1) ∧ S1 = p.2) := by
 unfold f at h
 refine HCall.of_run at_.at_ body ?_
 show HRun Tryz.prog base W0 β0 37 none [.code c0] ⟨[(.str x0),τ,τ,τ,τ,τ,τ,τ,τ,τ],[]⟩ S _
 refine qQ rfl (qR rfl rfl (qS 2 rfl (ok_assign · (.bool _)) (rE ?_)))
 try dsimp only [w0,w1,w2,w3]
 obtain ⟨p1,hp1,h⟩ := bindo h
 refine qQ rfl (qR rfl rfl (qS 3 rfl (oM · rfl) (q_call (dst := some 4) rfl (.func _) (.cons (.tmp rfl) (.cons (.int _ _) (.cons (.int _ _) (.cons (.int _ _) Evs.nil)))) (HInv.static valid_all.at_ valid_all.body (valid_all.snd  hp1)) ?_)))
 rintro _ _ ⟨rfl,rfl⟩
 refine qS 5 rfl (oM · rfl) ?_
 rcases ifc h with ⟨hc2,h⟩ | ⟨hc2,h⟩
 ·refine qG 5 6 rfl hc2 (oM · rfl) ?_
  try dsimp only [w0,w1,w2,w3]
  obtain ⟨hg3,h⟩ := gd h
  obtain ⟨p4,hp4,h⟩ := bindo h
  refine qG 5 7 rfl hc2 (ok_slice_str (kl := .i64) (kh := .i64) (l := 0) (h := 1) · tu9 (.tmp rfl) (.inl ⟨rfl,rfl⟩) (.inr ⟨_,rfl,(.int _ _)⟩) hg3.1 hg3.2.1 hg3.2.2) (q_call_g (t := 5) (dst := some 8) rfl rfl rfl hc2 (.func _) (.cons (.tmp rfl) (.cons (.int _ _) (.cons (.int _ _) (.cons (.int _ _) Evs.nil)))) (HInv.static valid_all.at_ valid_all.body (valid_all.snd  hp4)) ?_)
  rintro _ _ ⟨rfl,rfl⟩
  refine qS 9 rfl (ok_pick_tt · (.tmp rfl) hc2 (.tmp rfl)) ?_
  try dsimp only [w0,w1,w2,w3]
  exact J0_snd  h
 ·refine q_skip (dst := some 6) (t := 5) rfl rfl rfl (bfalse hc2) ?_
  try dsimp only [w0,w1,w2,w3]
  refine q_skip (dst := some 7) (t := 5) rfl rfl rfl (bfalse hc2) (q_skip (dst := some 8) (t := 5) rfl rfl rfl (bfalse hc2) (qS 9 rfl (ok_pick_ff · (.tmp rfl) (bfalse hc2) (.bool _)) ?_))
  try dsimp only [w0,w1,w2,w3]
  exact J0_snd  h
end
end valid_Nick
namespace wish_Monitor
theorem at_ : FnAt Tryz.prog 22 Tryz.f22 := ⟨Tryz.func22,by kernel_rfl⟩
noncomputable def d0 := (Tryz.f22.body).getD .skip
noncomputable def r1 := kR (kA d0)
noncomputable def r5 := kR (kA (kA (kA (kB d0))))
noncomputable def r8 := kR (kA (kA (kB (kA (kA (kB d0))))))
noncomputable def d11 := kB (kA (kB d0))
noncomputable def r12 := kR (kA d11)
noncomputable def r15 := kR (kA (kA (kB d11)))
noncomputable def r18 := kR (kA (kA (kB (kA (kB d11)))))
noncomputable def r22 := kR (kA (kB (kB d11)))
noncomputable def d23 := kB (kB (kB d11))
noncomputable def r27 := kR (kA (kA (kB d23)))
noncomputable def d28 := kB (kA (kB d23))
noncomputable def r31 := kR (kA (kA (kA d28)))
noncomputable def d32 := kB (kA (kA d28))
noncomputable def r39 := kR (kA (kA (kA (kB d32))))
noncomputable def r42 := kR (kA (kA (kB (kA (kA (kB d32))))))
noncomputable def r46 := kR (kB (kB (kA (kA (kB d32)))))
noncomputable def r47 := kR (kB (kB d32))
noncomputable def r49 := kR (kA (kB (kB d23)))
noncomputable def c48 : Code := .seq (.region 13 r49 false) .ret
noncomputable def c47 : Code := .region 12 r47 false
noncomputable def c30 : Code := .seq (.region 8 r31 false) (.seq (.cond (.tmp 33) .skip (.exit 0)) (.seq (.block 1 (.seq (.region 9 r39 false) (.seq (.seq (.region 10 r42 false) (.cond (.tmp 38) (.exit 1) .skip)) (.region 11 r46 false)))) c47))
noncomputable def c21 : Code := .seq (.region 6 r22 false) (.seq (.label 0) (.seq (.seq (.region 7 r27 false) (.block 0 (.loop c30))) c48))
noncomputable def c16 : Code := .cond (.tmp 25) (.seq (.region 5 r18 false) .ret) .skip
noncomputable def c3 : Code := .seq (.seq (.region 1 r5 false) (.cond (.tmp 10) (.seq (.region 2 r8 false) .ret) .skip)) (.seq (.region 3 r12 false) (.seq (.seq (.region 4 r15 false) c16) c21))
noncomputable def c0 : Code := .seq (.region 0 r1 false) (.scope c3)
theorem body : Tryz.f22.body = some c0 := by kernel_rfl
section
variable {base : Nat} {W0 : World} {β0 : Bt}
def J3 (k : Nat) (rec0 : Int → Sl → Sl → Int → Int → HS → Option ((Int × Sl) × HS)) (y4 : Int) (y5 : Sl) (y30 : Sl) (y31 : Int) (y32 : Int) (S : HS) : Option ((Int × Sl) × HS) :=
 rec0 y4 y5 y30 y31 (w64 (y32 + 1)) S
theorem J3_snd {k : Nat} {rec0 : Int → Sl → Sl → Int → Int → HS → Option ((Int × Sl) × HS)} (hrec0 : ∀ ⦃y4 : Int⦄ ⦃y5 : Sl⦄ ⦃y30 : Sl⦄ ⦃y31 : Int⦄ ⦃y32 : Int⦄ ⦃S : HS⦄ ⦃p : (Int × Sl) × HS⦄ ⦃Ga Gb Gc Gd Gg Gh Gi Gj Gk Gl Gm Gn Go Gp Gq Gr Gs Gt Gu Gv Gw Gx Gy Gz Ka Kb Kc Kd Kh Ki Kj Kk Kl Km Kn Ko Kp Kq Kr Ks Kt : HV⦄,rec0 y4 y5 y30 y31 y32 S = some p → HRun Tryz.prog base W0 β0 22 none [.inLoop c30,.inBlock 0,.code c48,.inScope c3] ⟨[Ga,Gb,Gc,Gd,(.int .u8 y4),(Sl.hv y5),Gg,Gh,Gi,Gj,Gk,Gl,Gm,Gn,Go,Gp,Gq,Gr,Gs,Gt,Gu,Gv,Gw,Gx,Gy,Gz,Ka,Kb,Kc,Kd,(Sl.hv y30),(.int .i64 y31),(.int .i64 y32),Kh,Ki,Kj,Kk,Kl,Km,Kn,Ko,Kp,Kq,Kr,Ks,Kt],[]⟩ S (fun v S1 => v = (.tup [(.int .u8 p.1.1),(Sl.hv p.1.2)]) ∧ S1 = p.2)) {y4 : Int} {y5 : Sl} {y30 : Sl} {y31 : Int} {y32 : Int} {S : HS} {p : (Int × Sl) × HS} {Ga Gb Gc Gd Gg Gh Gi Gj Gk Gl Gm Gn Go Gp Gq Gr Gs Gt Gu Gv Gw Gx Gy Gz Ka Kb Kc Kd Kh Ki Kj Kk Kl Km Kn Ko Kp Kq Kr Ks Kt : HV} (h : J3 k rec0 y4 y5 y30 y31 y32 S = some p) : HRun Tryz.prog base W0 β0 22 none [.code c47,.inLoop c30,.inBlock 0,.code c48,.inScope c3] ⟨[Ga,Gb,Gc,Gd,(.int .u8 y4),(Sl.hv y5),Gg,Gh,Gi,Gj,Gk,Gl,Gm,Gn,Go,Gp,Gq,Gr,Gs,Gt,Gu,Gv,Gw,Gx,Gy,Gz,Ka,Kb,Kc,Kd,(Sl.hv y30),(.int .i64 y31),(.int .i64 y32),Kh,Ki,Kj,Kk,Kl,Km,Kn,Ko,Kp,Kq,Kr,Ks,Kt],[]⟩ S (fun v S1 => v = (.tup [(.int .u8 p.1.1),(Sl.hv p.1.2)]) ∧ S1 = p.2) := by
 unfold J3 at h
 refine qR rfl rfl (qS 43 rfl (oC · rfl rfl) (qS 32 rfl (oM · rfl) (rE ?_)))
 try dsimp only [w0,w1,w2,w3]
 try dsimp only [w0,w1,w2,w3]
 exact hrec0 h
def L2 (k : Nat) : Nat → Int → Sl → Sl → Int → Int → HS → Option ((Int × Sl) × HS)
 | 0,_,_,_,_,_,_ => none
 | n + 1,y4,y5,y30,y31,y32,S =>
  (if y32 < y31 then
  (Option.bind (HS.idx S y30 y32 1) fun p12 =>
  (Option.bind (HS.ldS S p12) fun p13 =>
  (Option.bind (valid_Nick.f k p13 S) fun p14 =>
  (if (!p14.1) = true then
  J3 k (L2 k n) y4 y5 y30 y31 y32 p14.2 else
  (letv (HS.lit p14.2 [[(.str p13)]] 1) fun p16 =>
  (Option.bind (HS.rows (p16.2) (p16.1) 1) fun p17 =>
  (Option.bind (HS.app (p16.2) y5 p17 1) fun p18 =>
  J3 k (L2 k n) y4 (p18.1) y30 y31 y32 (p18.2)))))))) else
  some ((y4,y5),S))
theorem L2_snd {k : Nat}  : ∀ {n : Nat} ⦃y4 : Int⦄ ⦃y5 : Sl⦄ ⦃y30 : Sl⦄ ⦃y31 : Int⦄ ⦃y32 : Int⦄ ⦃S : HS⦄ ⦃p : (Int × Sl) × HS⦄ ⦃Ga Gb Gc Gd Gg Gh Gi Gj Gk Gl Gm Gn Go Gp Gq Gr Gs Gt Gu Gv Gw Gx Gy Gz Ka Kb Kc Kd Kh Ki Kj Kk Kl Km Kn Ko Kp Kq Kr Ks Kt : HV⦄,L2 k n y4 y5 y30 y31 y32 S = some p → HRun Tryz.prog base W0 β0 22 none [.inLoop c30,.inBlock 0,.code c48,.inScope c3] ⟨[Ga,Gb,Gc,Gd,(.int .u8 y4),(Sl.hv y5),Gg,Gh,Gi,Gj,Gk,Gl,Gm,Gn,Go,Gp,Gq,Gr,Gs,Gt,Gu,Gv,Gw,Gx,Gy,Gz,Ka,Kb,Kc,Kd,(Sl.hv y30),(.int .i64 y31),(.int .i64 y32),Kh,Ki,Kj,Kk,Kl,Km,Kn,Ko,Kp,Kq,Kr,Ks,Kt],[]⟩ S (fun v S1 => v = (.tup [(.int .u8 p.1.1),(Sl.hv p.1.2)]) ∧ S1 = p.2) := by
 intro n
 induction n with
 | zero => intro _ _ _ _ _ _ _ _ _ _ _ _ _ _ _ _ _ _ _ _ _ _ _ _ _ _ _ _ _ _ _ _ _ _ _ _ _ _ _ _ _ _ _ _ _ _ _ _ h; cases h
 | succ n ih =>
  intro y4 y5 y30 y31 y32 S p Ga Gb Gc Gd Gg Gh Gi Gj Gk Gl Gm Gn Go Gp Gq Gr Gs Gt Gu Gv Gw Gx Gy Gz Ka Kb Kc Kd Kh Ki Kj Kk Kl Km Kn Ko Kp Kq Kr Ks Kt h
  simp only [L2] at h
  refine hr_inLoop (qQ rfl (qR rfl rfl (qS 33 rfl (oB · rfl rfl rfl) (rE ?_))))
  try dsimp only [w0,w1,w2,w3]
  refine qQ rfl ?_
  rcases ifc h with ⟨hc11,h⟩ | ⟨hc11,h⟩
  ·obtain ⟨p12,hp12,h⟩ := bindo h
   obtain ⟨p13,hp13,h⟩ := bindo h
   refine q_cond_t rfl (.tmp rfl) (decide_eq_true hc11) (q_skipc rfl (qQ rfl (q_block rfl (qQ rfl (qR rfl rfl (qS 34 rfl (oX (s := y30) · tu38 sz9 rfl rfl hp12) (qS 35 rfl (oL · sc9 rfl rfl (ldS_out hp13)) (qS 7 rfl (oA · rfl) (rE ?_)))))))))
   try dsimp only [w0,w1,w2,w3]
   obtain ⟨p14,hp14,h⟩ := bindo h
   refine qQ rfl (qQ rfl (qR rfl rfl (qS 36 rfl (oM · rfl) (q_call (dst := some 37) rfl (.func _) (.cons (.tmp rfl) Evs.nil) (HInv.static valid_Nick.at_ valid_Nick.body (valid_Nick.snd  hp14)) ?_))))
   rintro _ _ ⟨rfl,rfl⟩
   refine qS 38 rfl (ok_not · (.tmp rfl)) (rE ?_)
   try dsimp only [w0,w1,w2,w3]
   rcases ifc h with ⟨hc15,h⟩ | ⟨hc15,h⟩
   ·refine q_cond_t rfl (.tmp rfl) hc15 (q_exit rfl rfl ?_)
    try dsimp only [w0,w1,w2,w3]
    exact J3_snd ih h
   ·obtain ⟨p16,hp16,h⟩ := leto h
    obtain ⟨p17,hp17,h⟩ := bindo h
    obtain ⟨p18,hp18,h⟩ := bindo h
    refine q_cond_f rfl (.tmp rfl) (bfalse hc15) (q_skipc rfl (qR rfl rfl (qS 39 rfl (oM · rfl) (qS 40 rfl (oM · rfl) (qS 41 rfl (ok_buildSlice_s (xs := [(.tmp 40)]) el38 · rfl rfl (by decide) (.cons (.tmp rfl) Evs.nil) rfl rfl hp16) (qS 42 rfl (ok_append (s := y5) (s1 := (p16.1)) el38 · rfl rfl ⟨_,tu38⟩ (.tmp rfl) (.tmp rfl) hp17 hp18) ?_))))))
    try dsimp only [w0,w1,w2,w3]
    refine qS 5 rfl (oA · rfl) (rE ?_)
    try dsimp only [w0,w1,w2,w3]
    refine hr_inBlock ?_
    try dsimp only [w0,w1,w2,w3]
    exact J3_snd ih h
  ·refine q_cond_f rfl (.tmp rfl) (decide_eq_false hc11) (q_exit rfl rfl (qQ rfl (qR rfl rfl (qS 44 rfl (oM · rfl) (qS 45 rfl (oM · rfl) (qS 2 rfl (oA · rfl) (qS 3 rfl (oA · rfl) (rE ?_))))))))
   try dsimp only [w0,w1,w2,w3]
   cases h
   exact q_ret rfl at_.at_ rfl (res2 rfl rfl rfl) ⟨rfl,rfl⟩
def J1 (k : Nat) (y0 : Sl) (y4 : Int) (y25 : Bool) (S : HS) : Option ((Int × Sl) × HS) :=
 (if y25 = true then
 some ((y4,Sl.nil),S) else
 (Option.bind (HS.idx S y0 1 1) fun p8 =>
 (Option.bind (HS.ldS S p8) fun p9 =>
 (Option.bind (strings_Split.f k p9 ([44] : List UInt8) S) fun p10 =>
 L2 k k y4 Sl.nil p10.1 (Sl.len p10.1 : Int) 0 p10.2))))
theorem J1_snd {k : Nat}  {y0 : Sl} {y4 : Int} {y25 : Bool} {S : HS} {p : (Int × Sl) × HS} {Gb Gc Gd Gf Gg Gh Gi Gj Gk Gl Gm Gn Go Gp Gq Gr Gs Gt Gu Gv Gw Gx Gy Ka Kb Kc Kd Ke Kf Kg Kh Ki Kj Kk Kl Km Kn Ko Kp Kq Kr Ks Kt : HV} (h : J1 k y0 y4 y25 S = some p) : HRun Tryz.prog base W0 β0 22 none [.code c16,.code c21,.inScope c3] ⟨[(Sl.hv y0),Gb,Gc,Gd,(.int .u8 y4),Gf,Gg,Gh,Gi,Gj,Gk,Gl,Gm,Gn,Go,Gp,Gq,Gr,Gs,Gt,Gu,Gv,Gw,Gx,Gy,(.bool y25),Ka,Kb,Kc,Kd,Ke,Kf,Kg,Kh,Ki,Kj,Kk,Kl,Km,Kn,Ko,Kp,Kq,Kr,Ks,Kt],[]⟩ S (fun v S1 => v = (.tup [(.int .u8 p.1.1),(Sl.hv p.1.2)]) ∧ S1 = p.2) := by
 unfold J1 at h
 rcases ifc h with ⟨hc7,h⟩ | ⟨hc7,h⟩
 ·refine q_cond_t rfl (.tmp rfl) hc7 (qQ rfl (qR rfl rfl (qS 26 rfl (oM · rfl) (qS 2 rfl (oA · rfl) (qS 3 rfl (ok_assign · (.const fun _ => .slNil none)) (rE ?_))))))
  try dsimp only [w0,w1,w2,w3]
  cases h
  exact q_ret rfl at_.at_ rfl (res2 rfl rfl rfl) ⟨rfl,rfl⟩
 ·refine q_cond_f rfl (.tmp rfl) (bfalse hc7) (q_skipc rfl (qQ rfl (qR rfl rfl (qS 5 rfl (ok_assign · (.const fun _ => .slNil none)) (rE ?_)))))
  try dsimp only [w0,w1,w2,w3]
  obtain ⟨p8,hp8,h⟩ := bindo h
  obtain ⟨p9,hp9,h⟩ := bindo h
  obtain ⟨p10,hp10,h⟩ := bindo h
  refine qQ rfl (q_label rfl (qQ rfl (qQ rfl (qR rfl rfl (qS 27 rfl (oM · rfl) (qS 28 rfl (ok_indexAddr (s := y0) · tu38 sz9 (.tmp rfl) (.int _ _) hp8) (qS 29 rfl (oL · sc9 rfl rfl (ldS_out hp9)) (q_call (dst := some 30) rfl (.func _) (.cons (.tmp rfl) (.cons (.str _) Evs.nil)) (HInv.static strings_Split.at_ strings_Split.body (strings_Split.snd  hp10)) ?_))))))))
  rintro _ _ ⟨rfl,rfl⟩
  try dsimp only [w0,w1,w2,w3]
  refine qS 31 rfl (ok_len_sl (q := Sl.a p10.1) (n := Sl.len p10.1) (z := Sl.cap p10.1) · rfl tu38 (.tmp rfl)) (qS 32 rfl (ok_move · (.int _ _)) (rE ?_))
  try dsimp only [w0,w1,w2,w3]
  refine q_block rfl (q_loop rfl ?_)
  try dsimp only [w0,w1,w2,w3]
  exact L2_snd  h
def J0 (k : Nat) (y0 : Sl) (y4 : Int) (y20 : Bool) (S : HS) : Option ((Int × Sl) × HS) :=
 (if y20 = true then
 J1 k y0 y4 true S else
 J1 k y0 y4 (decide ((Sl.len y0 : Int) < 2)) S)
theorem J0_snd {k : Nat}  {y0 : Sl} {y4 : Int} {y20 : Bool} {S : HS} {p : (Int × Sl) × HS} {Gb Gc Gd Gf Gg Gh Gi Gj Gk Gl Gm Gn Go Gp Gq Gr Gs Gt Gv Gw Gx Gy Gz Ka Kb Kc Kd Ke Kf Kg Kh Ki Kj Kk Kl Km Kn Ko Kp Kq Kr Ks Kt : HV} (h : J0 k y0 y4 y20 S = some p) : HRun Tryz.prog base W0 β0 22 none [.inRegion r15 [6,7,8,9,10],.code c16,.code c21,.inScope c3] ⟨[(Sl.hv y0),Gb,Gc,Gd,(.int .u8 y4),Gf,Gg,Gh,Gi,Gj,Gk,Gl,Gm,Gn,Go,Gp,Gq,Gr,Gs,Gt,(.bool y20),Gv,Gw,Gx,Gy,Gz,Ka,Kb,Kc,Kd,Ke,Kf,Kg,Kh,Ki,Kj,Kk,Kl,Km,Kn,Ko,Kp,Kq,Kr,Ks,Kt],[]⟩ S (fun v S1 => v = (.tup [(.int .u8 p.1.1),(Sl.hv p.1.2)]) ∧ S1 = p.2) := by
 unfold J0 at h
 refine qS 21 rfl (oM · rfl) ?_
 rcases ifc h with ⟨hc6,h⟩ | ⟨hc6,h⟩
 ·refine q_skip (dst := some 22) (t := 21) rfl rfl rfl hc6 ?_
  try dsimp only [w0,w1,w2,w3]
  refine q_skip (dst := some 23) (t := 21) rfl rfl rfl hc6 (q_skip (dst := some 24) (t := 21) rfl rfl rfl hc6 (qS 25 rfl (ok_pick_tt · (.tmp rfl) hc6 (.bool _)) (rE ?_)))
  try dsimp only [w0,w1,w2,w3]
  try dsimp only [w0,w1,w2,w3]
  exact J1_snd  h
 ·refine qG 21 22 rfl (bfalse hc6) (oM · rfl) ?_
  try dsimp only [w0,w1,w2,w3]
  refine qG 21 23 rfl (bfalse hc6) (ok_len_sl (q := Sl.a y0) (n := Sl.len y0) (z := Sl.cap y0) · rfl tu38 (.tmp rfl)) (qG 21 24 rfl (bfalse hc6) (oC · rfl rfl) (qS 25 rfl (ok_pick_ff · (.tmp rfl) (bfalse hc6) (.tmp rfl)) (rE ?_)))
  try dsimp only [w0,w1,w2,w3]
  try dsimp only [w0,w1,w2,w3]
  exact J1_snd  h
def f (k : Nat) (x0 : Sl) (S : HS) : Option ((Int × Sl) × HS) :=
 (if (Sl.len x0 : Int) = 0 then
 some ((0,Sl.nil),S) else
 (Option.bind (HS.idx S x0 0 1) fun p2 =>
 (Option.bind (HS.ldS S p2) fun p3 =>
 (Option.bind (wish_single.f k p3 ([43,45] : List UInt8) S) fun p4 =>
 (if (!decide (p4.1 = 43)) = true then
 J0 k x0 p4.1 (!decide (p4.1 = 45)) p4.2 else
 J0 k x0 p4.1 false p4.2)))))
theorem snd {k : Nat} {x0 : Sl} {S : HS}  {p : (Int × Sl) × HS} (h : f k x0 S = some p) : HCall Tryz.prog base W0 β0 22 [(Sl.hv x0)] S (fun v S1 => v = (.tup [(.int .u8 p.1.1),(Sl.hv p.1.2)]) ∧ S1 = p.2) := by
 unfold f at h
 refine HCall.of_run at_.at_ body ?_
 show HRun Tryz.prog base W0 β0 22 none [.code c0] ⟨[(Sl.hv x0),τ,τ,τ,τ,τ,τ,τ,τ,τ,τ,τ,τ,τ,τ,τ,τ,τ,τ,τ,τ,τ,τ,τ,τ,τ,τ,τ,τ,τ,τ,τ,τ,τ,τ,τ,τ,τ,τ,τ,τ,τ,τ,τ,τ,τ],[]⟩ S _
 refine qQ rfl (qR rfl rfl (qS 2 rfl (ok_assign · (.int _ _)) (qS 3 rfl (ok_assign · (.const fun _ => .slNil none)) (rE ?_))))
 try dsimp only [w0,w1,w2,w3]
 refine q_scope rfl (qQ rfl (qQ rfl (qR rfl rfl (qS 8 rfl (oM · rfl) (qS 9 rfl (ok_len_sl (q := Sl.a x0) (n := Sl.len x0) (z := Sl.cap x0) · rfl tu38 (.tmp rfl)) (qS 10 rfl (oC · rfl rfl) (rE ?_)))))))
 try dsimp only [w0,w1,w2,w3]
 rcases ifc h with ⟨hc1,h⟩ | ⟨hc1,h⟩
 ·refine q_cond_t rfl (.tmp rfl) (decide_eq_true hc1) (qQ rfl (qR rfl rfl (qS 2 rfl (ok_assign · (.int _ _)) (qS 3 rfl (ok_assign · (.const fun _ => .slNil none)) (rE ?_)))))
  try dsimp only [w0,w1,w2,w3]
  cases h
  exact q_ret rfl at_.at_ rfl (res2 rfl rfl rfl) ⟨rfl,rfl⟩
 ·obtain ⟨p2,hp2,h⟩ := bindo h
  obtain ⟨p3,hp3,h⟩ := bindo h
  obtain ⟨p4,hp4,h⟩ := bindo h
  refine q_cond_f rfl (.tmp rfl) (decide_eq_false hc1) (q_skipc rfl (qQ rfl (qR rfl rfl (qS 11 rfl (oM · rfl) (qS 12 rfl (ok_indexAddr (s := x0) · tu38 sz9 (.tmp rfl) (.int _ _) hp2) (qS 13 rfl (oL · sc9 rfl rfl (ldS_out hp3)) (q_call (dst := some 14) rfl (.func _) (.cons (.tmp rfl) (.cons (.str _) Evs.nil)) (HInv.static wish_single.at_ wish_single.body (wish_single.snd  hp4)) ?_)))))))
  rintro _ _ ⟨rfl,rfl⟩
  try dsimp only [w0,w1,w2,w3]
  refine qS 4 rfl (oA · rfl) (rE ?_)
  try dsimp only [w0,w1,w2,w3]
  refine qQ rfl (qQ rfl (qR rfl rfl (qS 15 rfl (oM · rfl) (qS 16 rfl (oC · rfl rfl) (qS 17 rfl (oM · rfl) ?_)))))
  rcases ifc h with ⟨hc5,h⟩ | ⟨hc5,h⟩
  ·refine qG 17 18 rfl hc5 (oM · rfl) ?_
   try dsimp only [w0,w1,w2,w3]
   refine qG 17 19 rfl hc5 (oC · rfl rfl) (qS 20 rfl (ok_pick_tt · (.tmp rfl) hc5 (.tmp rfl)) ?_)
   try dsimp only [w0,w1,w2,w3]
   exact J0_snd  h
  ·refine q_skip (dst := some 18) (t := 17) rfl rfl rfl (bfalse hc5) ?_
   try dsimp only [w0,w1,w2,w3]
   refine q_skip (dst := some 19) (t := 17) rfl rfl rfl (bfalse hc5) (qS 20 rfl (ok_pick_ff · (.tmp rfl) (bfalse hc5) (.bool _)) ?_)
   try dsimp only [w0,w1,w2,w3]
   exact J0_snd  h
end
end wish_Monitor
namespace wish_Watch
theorem at_ : FnAt Tryz.prog 23 Tryz.f23 := ⟨Tryz.func23,by kernel_rfl⟩
noncomputable def d0 := (Tryz.f23.body).getD .skip
noncomputable def r1 := kR (kA d0)
noncomputable def r4 := kR (kA (kA (kB d0)))
noncomputable def r7 := kR (kA (kA (kB (kA (kB d0)))))
noncomputable def r11 := kR (kA (kB (kB d0)))
noncomputable def d12 := kB (kB (kB d0))
noncomputable def r14 := kR (kA (kA d12))
noncomputable def d16 := kA (kB (kA d12))
noncomputable def r18 := kR (kA (kA d16))
noncomputable def d23 := kB (kB (kA d16))
noncomputable def r26 := kR (kA (kA (kA d23)))
noncomputable def d27 := kB (kA (kA d23))
noncomputable def r28 := kR (kA d27)
noncomputable def r30 := kR (kA (kB d27))
noncomputable def r32 := kR (kA (kB (kB d27)))
noncomputable def r34 := kR (kA (kB (kB (kB d27))))
noncomputable def r36 := kR (kA (kB (kB (kB (kB d27)))))
noncomputable def r38 := kR (kB d23)
noncomputable def r40 := kR (kA (kB d12))
noncomputable def c39 : Code := .seq (.region 13 r40 false) .ret
noncomputable def c38 : Code := .region 12 r38 false
noncomputable def c35 : Code := .cond (.tmp 43) (.region 11 r36 true) .skip
noncomputable def c17 : Code := .seq (.region 5 r18 false) (.seq (.cond (.tmp 15) .skip (.exit 0)) (.seq (.block 1 (.seq (.region 6 r26 false) (.seq (.region 7 r28 false) (.seq (.region 8 r30 false) (.cond (.tmp 21) (.region 9 r32 false) (.seq (.region 10 r34 false) c35)))))) c38))
noncomputable def c0 : Code := .seq (.region 0 r1 false) (.seq (.seq (.region 1 r4 false) (.cond (.tmp 9) (.seq (.region 2 r7 false) .ret) .skip)) (.seq (.region 3 r11 false) (.seq (.seq (.region 4 r14 false) (.block 0 (.loop c17))) c39)))
theorem body : Tryz.f23.body = some c0 := by kernel_rfl
section
variable {base : Nat} {W0 : World} {β0 : Bt}
def J1 (k : Nat) (rec0 : Sl → Sl → Int → Int → HS → Option ((Sl) × HS)) (y3 : Sl) (y12 : Sl) (y13 : Int) (y14 : Int) (S : HS) : Option ((Sl) × HS) :=
 rec0 y3 y12 y13 (w64 (y14 + 1)) S
theorem J1_snd {k : Nat} {rec0 : Sl → Sl → Int → Int → HS → Option ((Sl) × HS)} (hrec0 : ∀ ⦃y3 : Sl⦄ ⦃y12 : Sl⦄ ⦃y13 : Int⦄ ⦃y14 : Int⦄ ⦃S : HS⦄ ⦃p : (Sl) × HS⦄ ⦃Ga Gb Gc Ge Gf Gg Gh Gi Gj Gk Gl Gp Gq Gr Gs Gt Gu Gv Gw Gx Gy Gz Ka Kb Kc Kd Ke Kf Kg Kh Ki Kj Kk Kl Km Kn Ko Kp Kq Kr Ks Kt Ku Kv Kw Kx Ky Kz Ma Mb : HV⦄,rec0 y3 y12 y13 y14 S = some p → HRun Tryz.prog base W0 β0 23 none [.inLoop c17,.inBlock 0,.code c39] ⟨[Ga,Gb,Gc,(Sl.hv y3),Ge,Gf,Gg,Gh,Gi,Gj,Gk,Gl,(Sl.hv y12),(.int .i64 y13),(.int .i64 y14),Gp,Gq,Gr,Gs,Gt,Gu,Gv,Gw,Gx,Gy,Gz,Ka,Kb,Kc,Kd,Ke,Kf,Kg,Kh,Ki,Kj,Kk,Kl,Km,Kn,Ko,Kp,Kq,Kr,Ks,Kt,Ku,Kv,Kw,Kx,Ky,Kz,Ma,Mb],[]⟩ S (fun v S1 => v = (Sl.hv p.1) ∧ S1 = p.2)) {y3 : Sl} {y12 : Sl} {y13 : Int} {y14 : Int} {S : HS} {p : (Sl) × HS} {Ga Gb Gc Ge Gf Gg Gh Gi Gj Gk Gl Gp Gq Gr Gs Gt Gu Gv Gw Gx Gy Gz Ka Kb Kc Kd Ke Kf Kg Kh Ki Kj Kk Kl Km Kn Ko Kp Kq Kr Ks Kt Ku Kv Kw Kx Ky Kz Ma Mb : HV} (h : J1 k rec0 y3 y12 y13 y14 S = some p) : HRun Tryz.prog base W0 β0 23 none [.code c38,.inLoop c17,.inBlock 0,.code c39] ⟨[Ga,Gb,Gc,(Sl.hv y3),Ge,Gf,Gg,Gh,Gi,Gj,Gk,Gl,(Sl.hv y12),(.int .i64 y13),(.int .i64 y14),Gp,Gq,Gr,Gs,Gt,Gu,Gv,Gw,Gx,Gy,Gz,Ka,Kb,Kc,Kd,Ke,Kf,Kg,Kh,Ki,Kj,Kk,Kl,Km,Kn,Ko,Kp,Kq,Kr,Ks,Kt,Ku,Kv,Kw,Kx,Ky,Kz,Ma,Mb],[]⟩ S (fun v S1 => v = (Sl.hv p.1) ∧ S1 = p.2) := by
 unfold J1 at h
 refine qR rfl rfl (qS 52 rfl (oC · rfl rfl) (qS 14 rfl (oM · rfl) (rE ?_)))
 try dsimp only [w0,w1,w2,w3]
 try dsimp only [w0,w1,w2,w3]
 exact hrec0 h
def J4 (k : Nat) (rec0 : Sl → Sl → Int → Int → HS → Option ((Sl) × HS)) (y3 : Sl) (y5 : (List UInt8)) (y12 : Sl) (y13 : Int) (y14 : Int) (y43 : Bool) (S : HS) : Option ((Sl) × HS) :=
 (if y43 = true then
 (Option.bind (sat y5 0) fun p19 =>
 (if 0 ≤ (1 : Int) ∧ (1 : Int) ≤ (List.length y5 : Int) ∧ ((List.length y5 : Int) : Int) ≤ (List.length y5 : Int) then
 (letv (HS.lit S [[(.int .u8 (UInt8.toNat p19 : Int)),(.str (ssub y5 1 (List.length y5 : Int)))]] 2) fun p21 =>
 (Option.bind (HS.rows (p21.2) (p21.1) 2) fun p22 =>
 (Option.bind (HS.app (p21.2) y3 p22 2) fun p23 =>
 J1 k rec0 (p23.1) y12 y13 y14 (p23.2)))) else none)) else
 J1 k rec0 y3 y12 y13 y14 S)
theorem J4_snd {k : Nat} {rec0 : Sl → Sl → Int → Int → HS → Option ((Sl) × HS)} (hrec0 : ∀ ⦃y3 : Sl⦄ ⦃y12 : Sl⦄ ⦃y13 : Int⦄ ⦃y14 : Int⦄ ⦃S : HS⦄ ⦃p : (Sl) × HS⦄ ⦃Ga Gb Gc Ge Gf Gg Gh Gi Gj Gk Gl Gp Gq Gr Gs Gt Gu Gv Gw Gx Gy Gz Ka Kb Kc Kd Ke Kf Kg Kh Ki Kj Kk Kl Km Kn Ko Kp Kq Kr Ks Kt Ku Kv Kw Kx Ky Kz Ma Mb : HV⦄,rec0 y3 y12 y13 y14 S = some p → HRun Tryz.prog base W0 β0 23 none [.inLoop c17,.inBlock 0,.code c39] ⟨[Ga,Gb,Gc,(Sl.hv y3),Ge,Gf,Gg,Gh,Gi,Gj,Gk,Gl,(Sl.hv y12),(.int .i64 y13),(.int .i64 y14),Gp,Gq,Gr,Gs,Gt,Gu,Gv,Gw,Gx,Gy,Gz,Ka,Kb,Kc,Kd,Ke,Kf,Kg,Kh,Ki,Kj,Kk,Kl,Km,Kn,Ko,Kp,Kq,Kr,Ks,Kt,Ku,Kv,Kw,Kx,Ky,Kz,Ma,Mb],[]⟩ S (fun v S1 => v = (Sl.hv p.1) ∧ S1 = p.2)) {y3 : Sl} {y5 : (List UInt8)} {y12 : Sl} {y13 : Int} {y14 : Int} {y43 : Bool} {S : HS} {p : (Sl) × HS} {Ga Gb Gc Ge Gg Gh Gi Gj Gk Gl Gp Gq Gr Gs Gt Gu Gv Gw Gx Gy Gz Ka Kb Kc Kd Ke Kf Kg Kh Ki Kj Kk Kl Km Kn Ko Kp Kq Ks Kt Ku Kv Kw Kx Ky Kz Ma Mb : HV} (h : J4 k rec0 y3 y5 y12 y13 y14 y43 S = some p) : HRun Tryz.prog base W0 β0 23 none [.code c35,.inBlock 1,.code c38,.inLoop c17,.inBlock 0,.code c39] ⟨[Ga,Gb,Gc,(Sl.hv y3),Ge,(.str y5),Gg,Gh,Gi,Gj,Gk,Gl,(Sl.hv y12),(.int .i64 y13),(.int .i64 y14),Gp,Gq,Gr,Gs,Gt,Gu,Gv,Gw,Gx,Gy,Gz,Ka,Kb,Kc,Kd,Ke,Kf,Kg,Kh,Ki,Kj,Kk,Kl,Km,Kn,Ko,Kp,Kq,(.bool y43),Ks,Kt,Ku,Kv,Kw,Kx,Ky,Kz,Ma,Mb],[]⟩ S (fun v S1 => v = (Sl.hv p.1) ∧ S1 = p.2) := by
 unfold J4 at h
 rcases ifc h with ⟨hc18,h⟩ | ⟨hc18,h⟩
 ·refine q_cond_t rfl (.tmp rfl) hc18 ?_
  refine x_start (cls := [0,0,0,0,0,0,2,2,0]) (rk := [0,1,2,3,4,5,6,7,8]) rfl (by kernel_rfl) ?_
  refine yf 44 [3] rfl (oM · rfl) ?_
  refine yf 45 [5] rfl (oM · rfl) ?_
  obtain ⟨p19,hp19,h⟩ := bindo h
  refine yf 46 [45] rfl (ok_index_s · tu9 (.tmp rfl) (.int _ _) hp19) ?_
  refine yf 47 [5] rfl (oM · rfl) ?_
  try dsimp only [w0,w1,w2,w3]
  obtain ⟨hg20,h⟩ := gd h
  refine yf 48 [47] rfl (ok_slice_str (kl := .i64) (kh := .i64) (l := 1) (h := (List.length y5 : Int)) · tu9 (.tmp rfl) (.inr ⟨_,rfl,(.int _ _)⟩) (.inl ⟨rfl,rfl⟩) hg20.1 hg20.2.1 hg20.2.2) ?_
  refine yf 49 [46,48] rfl (ok_build (is := [0,1]) (xs := [(.tmp 46),(.tmp 48)]) (r := [(.int .u8 (UInt8.toNat p19 : Int)),(.str (ssub y5 1 (List.length y5 : Int)))]) st54 · rfl rfl (.cons (.tmp rfl) (.cons (.tmp rfl) Evs.nil)) rfl) ?_
  obtain ⟨p21,hp21,h⟩ := leto h
  refine ye 50 [49] rfl (ok_buildSlice_s (xs := [(.tmp 49)]) el51 · rfl rfl (by decide) (.cons (.tmp rfl) Evs.nil) rfl rfl hp21) ?_
  obtain ⟨p22,hp22,h⟩ := bindo h
  obtain ⟨p23,hp23,h⟩ := bindo h
  refine ye 51 [44,50] rfl (ok_append (s := y3) (s1 := (p21.1)) el51 · rfl rfl ⟨_,tu51⟩ (.tmp rfl) (.tmp rfl) hp22 hp23) ?_
  try dsimp only [w0,w1,w2,w3]
  refine yf 3 [51] rfl (oA · rfl) ?_
  refine x_rest rfl ?_
  refine rE ?_
  try dsimp only [w0,w1,w2,w3]
  refine hr_inBlock ?_
  try dsimp only [w0,w1,w2,w3]
  exact J1_snd hrec0 h
 ·refine q_cond_f rfl (.tmp rfl) (bfalse hc18) (q_skipc rfl (hr_inBlock ?_))
  try dsimp only [w0,w1,w2,w3]
  exact J1_snd hrec0 h
def J3 (k : Nat) (rec0 : Sl → Sl → Int → Int → HS → Option ((Sl) × HS)) (y3 : Sl) (y5 : (List UInt8)) (y12 : Sl) (y13 : Int) (y14 : Int) (y38 : Bool) (S : HS) : Option ((Sl) × HS) :=
 (if y38 = true then
 (if 0 ≤ (1 : Int) ∧ (1 : Int) ≤ (List.length y5 : Int) ∧ ((List.length y5 : Int) : Int) ≤ (List.length y5 : Int) then
 (Option.bind (valid_Nick.f k (ssub y5 1 (List.length y5 : Int)) S) fun p17 =>
 J4 k rec0 y3 y5 y12 y13 y14 p17.1 p17.2) else none) else
 J4 k rec0 y3 y5 y12 y13 y14 false S)
theorem J3_snd {k : Nat} {rec0 : Sl → Sl → Int → Int → HS → Option ((Sl) × HS)} (hrec0 : ∀ ⦃y3 : Sl⦄ ⦃y12 : Sl⦄ ⦃y13 : Int⦄ ⦃y14 : Int⦄ ⦃S : HS⦄ ⦃p : (Sl) × HS⦄ ⦃Ga Gb Gc Ge Gf Gg Gh Gi Gj Gk Gl Gp Gq Gr Gs Gt Gu Gv Gw Gx Gy Gz Ka Kb Kc Kd Ke Kf Kg Kh Ki Kj Kk Kl Km Kn Ko Kp Kq Kr Ks Kt Ku Kv Kw Kx Ky Kz Ma Mb : HV⦄,rec0 y3 y12 y13 y14 S = some p → HRun Tryz.prog base W0 β0 23 none [.inLoop c17,.inBlock 0,.code c39] ⟨[Ga,Gb,Gc,(Sl.hv y3),Ge,Gf,Gg,Gh,Gi,Gj,Gk,Gl,(Sl.hv y12),(.int .i64 y13),(.int .i64 y14),Gp,Gq,Gr,Gs,Gt,Gu,Gv,Gw,Gx,Gy,Gz,Ka,Kb,Kc,Kd,Ke,Kf,Kg,Kh,Ki,Kj,Kk,Kl,Km,Kn,Ko,Kp,Kq,Kr,Ks,Kt,Ku,Kv,Kw,Kx,Ky,Kz,Ma,Mb],[]⟩ S (fun v S1 => v = (Sl.hv p.1) ∧ S1 = p.2)) {y3 : Sl} {y5 : (List UInt8)} {y12 : Sl} {y13 : Int} {y14 : Int} {y38 : Bool} {S : HS} {p : (Sl) × HS} {Ga Gb Gc Ge Gg Gh Gi Gj Gk Gl Gp Gq Gr Gs Gt Gu Gv Gw Gx Gy Gz Ka Kb Kc Kd Ke Kf Kg Kh Ki Kj Kk Kl Kn Ko Kp Kq Kr Ks Kt Ku Kv Kw Kx Ky Kz Ma Mb : HV} (h : J3 k rec0 y3 y5 y12 y13 y14 y38 S = some p) : HRun Tryz.prog base W0 β0 23 none [.inRegion r34 [12,13,14,15,16],.code c35,.inBlock 1,.code c38,.inLoop c17,.inBlock 0,.code c39] ⟨[Ga,Gb,Gc,(Sl.hv y3),Ge,(.str y5),Gg,Gh,Gi,Gj,Gk,Gl,(Sl.hv y12),(.int .i64 y13),(.int .i64 y14),Gp,Gq,Gr,Gs,Gt,Gu,Gv,Gw,Gx,Gy,Gz,Ka,Kb,Kc,Kd,Ke,Kf,Kg,Kh,Ki,Kj,Kk,Kl,(.bool y38),Kn,Ko,Kp,Kq,Kr,Ks,Kt,Ku,Kv,Kw,Kx,Ky,Kz,Ma,Mb],[]⟩ S (fun v S1 => v = (Sl.hv p.1) ∧ S1 = p.2) := by
 unfold J3 at h
 refine qS 39 rfl (oM · rfl) ?_
 rcases ifc h with ⟨hc15,h⟩ | ⟨hc15,h⟩
 ·obtain ⟨hg16,h⟩ := gd h
  obtain ⟨p17,hp17,h⟩ := bindo h
  refine qG 39 40 rfl hc15 (oM · rfl) (qG 39 41 rfl hc15 (ok_slice_str (kl := .i64) (kh := .i64) (l := 1) (h := (List.length y5 : Int)) · tu9 (.tmp rfl) (.inr ⟨_,rfl,(.int _ _)⟩) (.inl ⟨rfl,rfl⟩) hg16.1 hg16.2.1 hg16.2.2) (q_call_g (t := 39) (dst := some 42) rfl rfl rfl hc15 (.func _) (.cons (.tmp rfl) Evs.nil) (HInv.static valid_Nick.at_ valid_Nick.body (valid_Nick.snd  hp17)) ?_))
  rintro _ _ ⟨rfl,rfl⟩
  try dsimp only [w0,w1,w2,w3]
  refine qS 43 rfl (ok_pick_tt · (.tmp rfl) hc15 (.tmp rfl)) (rE ?_)
  try dsimp only [w0,w1,w2,w3]
  try dsimp only [w0,w1,w2,w3]
  exact J4_snd hrec0 h
 ·refine q_skip (dst := some 40) (t := 39) rfl rfl rfl (bfalse hc15) (q_skip (dst := some 41) (t := 39) rfl rfl rfl (bfalse hc15) (q_skip (dst := some 42) (t := 39) rfl rfl rfl (bfalse hc15) ?_))
  try dsimp only [w0,w1,w2,w3]
  refine qS 43 rfl (ok_pick_ff · (.tmp rfl) (bfalse hc15) (.bool _)) (rE ?_)
  try dsimp only [w0,w1,w2,w3]
  try dsimp only [w0,w1,w2,w3]
  exact J4_snd hrec0 h
def J2 (k : Nat) (rec0 : Sl → Sl → Int → Int → HS → Option ((Sl) × HS)) (y3 : Sl) (y5 : (List UInt8)) (y12 : Sl) (y13 : Int) (y14 : Int) (y29 : Bool) (y37 : Bool) (S : HS) : Option ((Sl) × HS) :=
 (if y29 = true then
 J3 k rec0 y3 y5 y12 y13 y14 y37 S else
 J3 k rec0 y3 y5 y12 y13 y14 false S)
theorem J2_snd {k : Nat} {rec0 : Sl → Sl → Int → Int → HS → Option ((Sl) × HS)} (hrec0 : ∀ ⦃y3 : Sl⦄ ⦃y12 : Sl⦄ ⦃y13 : Int⦄ ⦃y14 : Int⦄ ⦃S : HS⦄ ⦃p : (Sl) × HS⦄ ⦃Ga Gb Gc Ge Gf Gg Gh Gi Gj Gk Gl Gp Gq Gr Gs Gt Gu Gv Gw Gx Gy Gz Ka Kb Kc Kd Ke Kf Kg Kh Ki Kj Kk Kl Km Kn Ko Kp Kq Kr Ks Kt Ku Kv Kw Kx Ky Kz Ma Mb : HV⦄,rec0 y3 y12 y13 y14 S = some p → HRun Tryz.prog base W0 β0 23 none [.inLoop c17,.inBlock 0,.code c39] ⟨[Ga,Gb,Gc,(Sl.hv y3),Ge,Gf,Gg,Gh,Gi,Gj,Gk,Gl,(Sl.hv y12),(.int .i64 y13),(.int .i64 y14),Gp,Gq,Gr,Gs,Gt,Gu,Gv,Gw,Gx,Gy,Gz,Ka,Kb,Kc,Kd,Ke,Kf,Kg,Kh,Ki,Kj,Kk,Kl,Km,Kn,Ko,Kp,Kq,Kr,Ks,Kt,Ku,Kv,Kw,Kx,Ky,Kz,Ma,Mb],[]⟩ S (fun v S1 => v = (Sl.hv p.1) ∧ S1 = p.2)) {y3 : Sl} {y5 : (List UInt8)} {y12 : Sl} {y13 : Int} {y14 : Int} {y29 : Bool} {y37 : Bool} {S : HS} {p : (Sl) × HS} {Ga Gb Gc Ge Gg Gh Gi Gj Gk Gl Gp Gq Gr Gs Gt Gu Gv Gw Gx Gy Gz Ka Kb Kc Ke Kf Kg Kh Ki Kj Kk Km Kn Ko Kp Kq Kr Ks Kt Ku Kv Kw Kx Ky Kz Ma Mb : HV} (h : J2 k rec0 y3 y5 y12 y13 y14 y29 y37 S = some p) : HRun Tryz.prog base W0 β0 23 none [.inRegion r34 [11,12,13,14,15,16],.code c35,.inBlock 1,.code c38,.inLoop c17,.inBlock 0,.code c39] ⟨[Ga,Gb,Gc,(Sl.hv y3),Ge,(.str y5),Gg,Gh,Gi,Gj,Gk,Gl,(Sl.hv y12),(.int .i64 y13),(.int .i64 y14),Gp,Gq,Gr,Gs,Gt,Gu,Gv,Gw,Gx,Gy,Gz,Ka,Kb,Kc,(.bool y29),Ke,Kf,Kg,Kh,Ki,Kj,Kk,(.bool y37),Km,Kn,Ko,Kp,Kq,Kr,Ks,Kt,Ku,Kv,Kw,Kx,Ky,Kz,Ma,Mb],[]⟩ S (fun v S1 => v = (Sl.hv p.1) ∧ S1 = p.2) := by
 unfold J2 at h
 rcases ifc h with ⟨hc14,h⟩ | ⟨hc14,h⟩
 ·refine qS 38 rfl (ok_pick_tt · (.tmp rfl) hc14 (.tmp rfl)) ?_
  try dsimp only [w0,w1,w2,w3]
  try dsimp only [w0,w1,w2,w3]
  exact J3_snd hrec0 h
 ·refine qS 38 rfl (ok_pick_ff · (.tmp rfl) (bfalse hc14) (.bool _)) ?_
  try dsimp only [w0,w1,w2,w3]
  try dsimp only [w0,w1,w2,w3]
  exact J3_snd hrec0 h
def L0 (k : Nat) : Nat → Sl → Sl → Int → Int → HS → Option ((Sl) × HS)
 | 0,_,_,_,_,_ => none
 | n + 1,y3,y12,y13,y14,S =>
  (if y14 < y13 then
  (Option.bind (HS.idx S y12 y14 1) fun p4 =>
  (Option.bind (HS.ldS S p4) fun p5 =>
  (Option.bind (wish_single.f k p5 ([] : List UInt8) S) fun p6 =>
  (if (!decide (p6.1 = 0)) = true then
  (letv (HS.lit p6.2 [[(.int .u8 p6.1),(.str [])]] 2) fun p8 =>
  (Option.bind (HS.rows (p8.2) (p8.1) 2) fun p9 =>
  (Option.bind (HS.app (p8.2) y3 p9 2) fun p10 =>
  J1 k (L0 k n) (p10.1) y12 y13 y14 (p10.2)))) else
  (if (!decide (p5 = ([] : List UInt8))) = true then
  (Option.bind (sat p5 0) fun p12 =>
  (if (UInt8.toNat p12 : Int) = 43 then
  J2 k (L0 k n) y3 p5 y12 y13 y14 (!decide (p5 = ([] : List UInt8))) true p6.2 else
  (Option.bind (sat p5 0) fun p24 =>
  J2 k (L0 k n) y3 p5 y12 y13 y14 (!decide (p5 = ([] : List UInt8))) (decide ((UInt8.toNat p24 : Int) = 45)) p6.2))) else
  J3 k (L0 k n) y3 p5 y12 y13 y14 false p6.2))))) else
  some (y3,S))
theorem L0_snd {k : Nat}  : ∀ {n : Nat} ⦃y3 : Sl⦄ ⦃y12 : Sl⦄ ⦃y13 : Int⦄ ⦃y14 : Int⦄ ⦃S : HS⦄ ⦃p : (Sl) × HS⦄ ⦃Ga Gb Gc Ge Gf Gg Gh Gi Gj Gk Gl Gp Gq Gr Gs Gt Gu Gv Gw Gx Gy Gz Ka Kb Kc Kd Ke Kf Kg Kh Ki Kj Kk Kl Km Kn Ko Kp Kq Kr Ks Kt Ku Kv Kw Kx Ky Kz Ma Mb : HV⦄,L0 k n y3 y12 y13 y14 S = some p → HRun Tryz.prog base W0 β0 23 none [.inLoop c17,.inBlock 0,.code c39] ⟨[Ga,Gb,Gc,(Sl.hv y3),Ge,Gf,Gg,Gh,Gi,Gj,Gk,Gl,(Sl.hv y12),(.int .i64 y13),(.int .i64 y14),Gp,Gq,Gr,Gs,Gt,Gu,Gv,Gw,Gx,Gy,Gz,Ka,Kb,Kc,Kd,Ke,Kf,Kg,Kh,Ki,Kj,Kk,Kl,Km,Kn,Ko,Kp,Kq,Kr,Ks,Kt,Ku,Kv,Kw,Kx,Ky,Kz,Ma,Mb],[]⟩ S (fun v S1 => v = (Sl.hv p.1) ∧ S1 = p.2) := by
 intro n
 induction n with
 | zero => intro _ _ _ _ _ _ _ _ _ _ _ _ _ _ _ _ _ _ _ _ _ _ _ _ _ _ _ _ _ _ _ _ _ _ _ _ _ _ _ _ _ _ _ _ _ _ _ _ _ _ _ _ _ _ _ _ h; cases h
 | succ n ih =>
  intro y3 y12 y13 y14 S p Ga Gb Gc Ge Gf Gg Gh Gi Gj Gk Gl Gp Gq Gr Gs Gt Gu Gv Gw Gx Gy Gz Ka Kb Kc Kd Ke Kf Kg Kh Ki Kj Kk Kl Km Kn Ko Kp Kq Kr Ks Kt Ku Kv Kw Kx Ky Kz Ma Mb h
  simp only [L0] at h
  refine hr_inLoop (qQ rfl (qR rfl rfl (qS 15 rfl (oB · rfl rfl rfl) (rE ?_))))
  try dsimp only [w0,w1,w2,w3]
  refine qQ rfl ?_
  rcases ifc h with ⟨hc3,h⟩ | ⟨hc3,h⟩
  ·obtain ⟨p4,hp4,h⟩ := bindo h
   obtain ⟨p5,hp5,h⟩ := bindo h
   refine q_cond_t rfl (.tmp rfl) (decide_eq_true hc3) (q_skipc rfl (qQ rfl (q_block rfl (qQ rfl (qR rfl rfl (qS 16 rfl (oX (s := y12) · tu38 sz9 rfl rfl hp4) (qS 17 rfl (oL · sc9 rfl rfl (ldS_out hp5)) (qS 5 rfl (oA · rfl) (rE ?_)))))))))
   try dsimp only [w0,w1,w2,w3]
   obtain ⟨p6,hp6,h⟩ := bindo h
   refine qQ rfl (qR rfl rfl (qS 18 rfl (oM · rfl) (q_call (dst := some 19) rfl (.func _) (.cons (.tmp rfl) (.cons (.str _) Evs.nil)) (HInv.static wish_single.at_ wish_single.body (wish_single.snd  hp6)) ?_)))
   rintro _ _ ⟨rfl,rfl⟩
   refine qS 6 rfl (oA · rfl) (rE ?_)
   try dsimp only [w0,w1,w2,w3]
   refine qQ rfl (qR rfl rfl (qS 20 rfl (oM · rfl) (qS 21 rfl (oC · rfl rfl) (rE ?_))))
   try dsimp only [w0,w1,w2,w3]
   rcases ifc h with ⟨hc7,h⟩ | ⟨hc7,h⟩
   ·obtain ⟨p8,hp8,h⟩ := leto h
    refine q_cond_t rfl (.tmp rfl) hc7 (qR rfl rfl (qS 22 rfl (oM · rfl) (qS 23 rfl (oM · rfl) (qS 24 rfl (ok_build (is := [0]) (xs := [(.tmp 23)]) (r := [(.int .u8 p6.1),(.str [])]) st54 · rfl rfl (.cons (.tmp rfl) Evs.nil) rfl) (qS 25 rfl (ok_buildSlice_s (xs := [(.tmp 24)]) el51 · rfl rfl (by decide) (.cons (.tmp rfl) Evs.nil) rfl rfl hp8) ?_)))))
    try dsimp only [w0,w1,w2,w3]
    obtain ⟨p9,hp9,h⟩ := bindo h
    obtain ⟨p10,hp10,h⟩ := bindo h
    refine qS 26 rfl (ok_append (s := y3) (s1 := (p8.1)) el51 · rfl rfl ⟨_,tu51⟩ (.tmp rfl) (.tmp rfl) hp9 hp10) (qS 3 rfl (oA · rfl) (rE ?_))
    try dsimp only [w0,w1,w2,w3]
    refine hr_inBlock ?_
    try dsimp only [w0,w1,w2,w3]
    exact J1_snd ih h
   ·refine q_cond_f rfl (.tmp rfl) (bfalse hc7) (qQ rfl (qR rfl rfl (qS 27 rfl (oM · rfl) (qS 28 rfl (ok_sbin · (.tmp rfl) (.str _) rfl) (qS 29 rfl (oM · rfl) ?_)))))
    rcases ifc h with ⟨hc11,h⟩ | ⟨hc11,h⟩
    ·refine qG 29 30 rfl hc11 (oM · rfl) ?_
     try dsimp only [w0,w1,w2,w3]
     obtain ⟨p12,hp12,h⟩ := bindo h
     refine qG 29 31 rfl hc11 (ok_index_s · tu9 (.tmp rfl) (.int _ _) hp12) (qG 29 32 rfl hc11 (oC · rfl rfl) (qG 29 33 rfl hc11 (oM · rfl) ?_))
     rcases ifc h with ⟨hc13,h⟩ | ⟨hc13,h⟩
     ·refine q_skip (dst := some 34) (t := 33) rfl rfl rfl (decide_eq_true hc13) ?_
      try dsimp only [w0,w1,w2,w3]
      refine q_skip (dst := some 35) (t := 33) rfl rfl rfl (decide_eq_true hc13) (q_skip (dst := some 36) (t := 33) rfl rfl rfl (decide_eq_true hc13) (qG 29 37 rfl hc11 (ok_pick_tt · (.tmp rfl) (decide_eq_true hc13) (.bool _)) ?_))
      try dsimp only [w0,w1,w2,w3]
      exact J2_snd ih h
     ·refine qG 33 34 rfl (decide_eq_false hc13) (oM · rfl) ?_
      try dsimp only [w0,w1,w2,w3]
      obtain ⟨p24,hp24,h⟩ := bindo h
      refine qG 33 35 rfl (decide_eq_false hc13) (ok_index_s · tu9 (.tmp rfl) (.int _ _) hp24) (qG 33 36 rfl (decide_eq_false hc13) (oC · rfl rfl) (qG 29 37 rfl hc11 (ok_pick_ff · (.tmp rfl) (decide_eq_false hc13) (.tmp rfl)) ?_))
      try dsimp only [w0,w1,w2,w3]
      exact J2_snd ih h
    ·refine q_skip (dst := some 30) (t := 29) rfl rfl rfl (bfalse hc11) ?_
     try dsimp only [w0,w1,w2,w3]
     refine q_skip (dst := some 31) (t := 29) rfl rfl rfl (bfalse hc11) (q_skip (dst := some 32) (t := 29) rfl rfl rfl (bfalse hc11) (q_skip (dst := some 33) (t := 29) rfl rfl rfl (bfalse hc11) (q_skip_u (dst := some 34) (t := 33) rfl rfl rfl ?_)))
     try dsimp only [w0,w1,w2,w3]
     refine q_skip_u (dst := some 35) (t := 33) rfl rfl rfl (q_skip_u (dst := some 36) (t := 33) rfl rfl rfl (q_skip (dst := some 37) (t := 29) rfl rfl rfl (bfalse hc11) (qS 38 rfl (ok_pick_ff · (.tmp rfl) (bfalse hc11) (.bool _)) ?_)))
     try dsimp only [w0,w1,w2,w3]
     try dsimp only [w0,w1,w2,w3]
     exact J3_snd ih h
  ·refine q_cond_f rfl (.tmp rfl) (decide_eq_false hc3) (q_exit rfl rfl (qQ rfl (qR rfl rfl (qS 53 rfl (oM · rfl) (qS 2 rfl (oA · rfl) (rE ?_))))))
   try dsimp only [w0,w1,w2,w3]
   cases h
   exact q_ret rfl at_.at_ rfl (res1 rfl rfl) ⟨rfl,rfl⟩
def f (k : Nat) (x0 : Sl) (S : HS) : Option ((Sl) × HS) :=
 (if (Sl.len x0 : Int) = 0 then
 (letv (HS.lit S [[(.int .u8 76),(.str [])]] 2) fun p2 =>
 some ((p2.1),(p2.2))) else
 L0 k k Sl.nil x0 (Sl.len x0 : Int) 0 S)
theorem snd {k : Nat} {x0 : Sl} {S : HS}  {p : (Sl) × HS} (h : f k x0 S = some p) : HCall Tryz.prog base W0 β0 23 [(Sl.hv x0)] S (fun v S1 => v = (Sl.hv p.1) ∧ S1 = p.2) := by
 unfold f at h
 refine HCall.of_run at_.at_ body ?_
 show HRun Tryz.prog base W0 β0 23 none [.code c0] ⟨[(Sl.hv x0),τ,τ,τ,τ,τ,τ,τ,τ,τ,τ,τ,τ,τ,τ,τ,τ,τ,τ,τ,τ,τ,τ,τ,τ,τ,τ,τ,τ,τ,τ,τ,τ,τ,τ,τ,τ,τ,τ,τ,τ,τ,τ,τ,τ,τ,τ,τ,τ,τ,τ,τ,τ,τ],[]⟩ S _
 refine qQ rfl (qR rfl rfl (qS 2 rfl (ok_assign · (.const fun _ => .slNil none)) (rE ?_)))
 try dsimp only [w0,w1,w2,w3]
 refine qQ rfl (qQ rfl (qR rfl rfl (qS 7 rfl (oM · rfl) (qS 8 rfl (ok_len_sl (q := Sl.a x0) (n := Sl.len x0) (z := Sl.cap x0) · rfl tu38 (.tmp rfl)) (qS 9 rfl (oC · rfl rfl) (rE ?_))))))
 try dsimp only [w0,w1,w2,w3]
 rcases ifc h with ⟨hc1,h⟩ | ⟨hc1,h⟩
 ·obtain ⟨p2,hp2,h⟩ := leto h
  refine q_cond_t rfl (.tmp rfl) (decide_eq_true hc1) (qQ rfl (qR rfl rfl (qS 10 rfl (ok_build (is := [0]) (xs := [(.const (.int .u8 76))]) (r := [(.int .u8 76),(.str [])]) st54 · rfl rfl (.cons (.int _ _) Evs.nil) rfl) (qS 11 rfl (ok_buildSlice_s (xs := [(.tmp 10)]) el51 · rfl rfl (by decide) (.cons (.tmp rfl) Evs.nil) rfl rfl hp2) (qS 2 rfl (oA · rfl) (rE ?_))))))
  try dsimp only [w0,w1,w2,w3]
  cases h
  exact q_ret rfl at_.at_ rfl (res1 rfl rfl) ⟨rfl,rfl⟩
 ·refine q_cond_f rfl (.tmp rfl) (decide_eq_false hc1) (q_skipc rfl (qQ rfl (qR rfl rfl (qS 3 rfl (ok_assign · (.const fun _ => .slNil none)) (rE ?_)))))
  try dsimp only [w0,w1,w2,w3]
  refine qQ rfl (qQ rfl (qR rfl rfl (qS 12 rfl (oM · rfl) (qS 13 rfl (ok_len_sl (q := Sl.a x0) (n := Sl.len x0) (z := Sl.cap x0) · rfl tu38 (.tmp rfl)) (qS 14 rfl (ok_move · (.int _ _)) (rE ?_))))))
  try dsimp only [w0,w1,w2,w3]
  refine q_block rfl (q_loop rfl ?_)
  try dsimp only [w0,w1,w2,w3]
  exact L0_snd  h
end
end wish_Watch
namespace rollcallref01_Texts
theorem at_ : FnAt Tryz.prog 18 Tryz.f18 := ⟨Tryz.func18,by kernel_rfl⟩
noncomputable def d0 := (Tryz.f18.body).getD .skip
noncomputable def r1 := kR (kA d0)
noncomputable def r4 := kR (kA (kA (kB d0)))
noncomputable def r7 := kR (kA (kA (kB (kA (kB d0)))))
noncomputable def d11 := kA (kB (kB d0))
noncomputable def r12 := kR (kA d11)
noncomputable def d15 := kA (kA (kB d11))
noncomputable def r17 := kR (kA (kA d15))
noncomputable def r24 := kR (kA (kA (kA (kB d15))))
noncomputable def r27 := kR (kA (kA (kB (kA (kA (kB d15))))))
noncomputable def r30 := kR (kB (kB d15))
noncomputable def r32 := kR (kA (kB (kB (kB d0))))
noncomputable def c31 : Code := .seq (.region 8 r32 false) .ret
noncomputable def c15 : Code := .seq (.seq (.region 4 r17 false) (.cond (.tmp 14) .skip (.exit 0))) (.seq (.block 1 (.seq (.region 6 r24 true) (.cond (.tmp 25) (.seq (.region 7 r27 false) .ret) .skip))) (.region 5 r30 false))
noncomputable def c0 : Code := .seq (.region 0 r1 false) (.seq (.seq (.region 1 r4 false) (.cond (.tmp 10) (.seq (.region 2 r7 false) .ret) .skip)) (.seq (.seq (.region 3 r12 false) (.block 0 (.loop c15))) c31))
theorem body : Tryz.f18.body = some c0 := by kernel_rfl
section
variable {base : Nat} {W0 : World} {β0 : Bt}
def L0 (k : Nat) : Nat → Sl → Sl → Int → HS → Option ((Bool) × HS)
 | 0,_,_,_,_ => none
 | n + 1,y0,y1,y5,S =>
  (if y5 < (Sl.len y0 : Int) then
  (Option.bind (HS.idx S y0 y5 1) fun p3 =>
  (Option.bind (HS.ldS S p3) fun p4 =>
  (Option.bind (HS.idx S y1 y5 1) fun p5 =>
  (Option.bind (HS.ldS S p5) fun p6 =>
  (if (!decide (p4 = p6)) = true then
  some (false,S) else
  (L0 k n) y0 y1 (w64 (y5 + 1)) S))))) else
  some (true,S))
theorem L0_snd {k : Nat}  : ∀ {n : Nat} ⦃y0 : Sl⦄ ⦃y1 : Sl⦄ ⦃y5 : Int⦄ ⦃S : HS⦄ ⦃p : (Bool) × HS⦄ ⦃Gc Gd Ge Gg Gh Gi Gj Gk Gl Gm Gn Go Gp Gq Gr Gs Gt Gu Gv Gw Gx Gy Gz : HV⦄,L0 k n y0 y1 y5 S = some p → HRun Tryz.prog base W0 β0 18 none [.inLoop c15,.inBlock 0,.code c31] ⟨[(Sl.hv y0),(Sl.hv y1),Gc,Gd,Ge,(.int .i64 y5),Gg,Gh,Gi,Gj,Gk,Gl,Gm,Gn,Go,Gp,Gq,Gr,Gs,Gt,Gu,Gv,Gw,Gx,Gy,Gz],[]⟩ S (fun v S1 => v = (.bool p.1) ∧ S1 = p.2) := by
 intro n
 induction n with
 | zero => intro _ _ _ _ _ _ _ _ _ _ _ _ _ _ _ _ _ _ _ _ _ _ _ _ _ _ _ _ h; cases h
 | succ n ih =>
  intro y0 y1 y5 S p Gc Gd Ge Gg Gh Gi Gj Gk Gl Gm Gn Go Gp Gq Gr Gs Gt Gu Gv Gw Gx Gy Gz h
  simp only [L0] at h
  refine hr_inLoop (qQ rfl (qQ rfl (qR rfl rfl (qS 11 rfl (oM · rfl) (qS 12 rfl (oM · rfl) (qS 13 rfl (ok_len_sl (q := Sl.a y0) (n := Sl.len y0) (z := Sl.cap y0) · rfl tu38 (.tmp rfl)) (qS 14 rfl (oB · rfl rfl rfl) (rE ?_))))))))
  try dsimp only [w0,w1,w2,w3]
  rcases ifc h with ⟨hc2,h⟩ | ⟨hc2,h⟩
  ·refine q_cond_t rfl (.tmp rfl) (decide_eq_true hc2) (q_skipc rfl (qQ rfl (q_block rfl (qQ rfl ?_))))
   refine x_start (cls := [0,0,1,1,0,0,1,1,0]) (rk := [0,1,2,3,4,5,6,7,8]) rfl (by kernel_rfl) ?_
   refine yf 17 [0] rfl (oM · rfl) ?_
   refine yf 18 [5] rfl (oM · rfl) ?_
   obtain ⟨p3,hp3,h⟩ := bindo h
   refine yr 19 [17,18] rfl (oX (s := y0) · tu38 sz9 rfl rfl hp3) ?_
   obtain ⟨p4,hp4,h⟩ := bindo h
   refine yr 20 [19] rfl (oL · sc9 rfl rfl (ldS_out hp4)) ?_
   try dsimp only [w0,w1,w2,w3]
   refine yf 21 [1] rfl (oM · rfl) ?_
   refine yf 22 [5] rfl (oM · rfl) ?_
   obtain ⟨p5,hp5,h⟩ := bindo h
   refine yr 23 [21,22] rfl (oX (s := y1) · tu38 sz9 rfl rfl hp5) ?_
   obtain ⟨p6,hp6,h⟩ := bindo h
   refine yr 24 [23] rfl (oL · sc9 rfl rfl (ldS_out hp6)) ?_
   try dsimp only [w0,w1,w2,w3]
   refine yf 25 [20,24] rfl (ok_sbin · (.tmp rfl) (.tmp rfl) rfl) ?_
   refine x_rest rfl ?_
   refine rE ?_
   try dsimp only [w0,w1,w2,w3]
   rcases ifc h with ⟨hc7,h⟩ | ⟨hc7,h⟩
   ·refine q_cond_t rfl (.tmp rfl) hc7 (qQ rfl (qR rfl rfl (qS 4 rfl (ok_assign · (.bool _)) (rE ?_))))
    try dsimp only [w0,w1,w2,w3]
    cases h
    exact q_ret rfl at_.at_ rfl (res1 rfl rfl) ⟨rfl,rfl⟩
   ·refine q_cond_f rfl (.tmp rfl) (bfalse hc7) (q_skipc rfl (hr_inBlock (qR rfl rfl (qS 15 rfl (oM · rfl) (qS 16 rfl (oC · rfl rfl) (qS 5 rfl (oA · rfl) (rE ?_)))))))
    try dsimp only [w0,w1,w2,w3]
    try dsimp only [w0,w1,w2,w3]
    exact ih h
  ·refine q_cond_f rfl (.tmp rfl) (decide_eq_false hc2) (q_exit rfl rfl (qQ rfl (qR rfl rfl (qS 4 rfl (ok_assign · (.bool _)) (rE ?_)))))
   try dsimp only [w0,w1,w2,w3]
   cases h
   exact q_ret rfl at_.at_ rfl (res1 rfl rfl) ⟨rfl,rfl⟩
def f (k : Nat) (x0 : Sl) (x1 : Sl) (S : HS) : Option ((Bool) × HS) :=
 (if (!decide ((Sl.len x0 : Int) = (Sl.len x1 : Int))) = true then
 some (false,S) else
 L0 k k x0 x1 0 S)
theorem snd {k : Nat} {x0 : Sl} {x1 : Sl} {S : HS}  {p : (Bool) × HS} (h : f k x0 x1 S = some p) : HCall Tryz.prog base W0 β0 18 [(Sl.hv x0),(Sl.hv x1)] S (fun v S1 => v = (.bool p.1) ∧ S1 = p.2) := by
 unfold f at h
 refine HCall.of_run at_.at_ body ?_
 show HRun Tryz.prog base W0 β0 18 none [.code c0] ⟨[(Sl.hv x0),(Sl.hv x1),τ,τ,τ,τ,τ,τ,τ,τ,τ,τ,τ,τ,τ,τ,τ,τ,τ,τ,τ,τ,τ,τ,τ,τ],[]⟩ S _
 refine qQ rfl (qR rfl rfl (qS 4 rfl (ok_assign · (.bool _)) (rE ?_)))
 try dsimp only [w0,w1,w2,w3]
 refine qQ rfl (qQ rfl (qR rfl rfl (qS 6 rfl (oM · rfl) (qS 7 rfl (ok_len_sl (q := Sl.a x0) (n := Sl.len x0) (z := Sl.cap x0) · rfl tu38 (.tmp rfl)) (qS 8 rfl (oM · rfl) (qS 9 rfl (ok_len_sl (q := Sl.a x1) (n := Sl.len x1) (z := Sl.cap x1) · rfl tu38 (.tmp rfl)) ?_))))))
 try dsimp only [w0,w1,w2,w3]
 refine qS 10 rfl (oB · rfl rfl rfl) (rE ?_)
 try dsimp only [w0,w1,w2,w3]
 rcases ifc h with ⟨hc1,h⟩ | ⟨hc1,h⟩
 ·refine q_cond_t rfl (.tmp rfl) hc1 (qQ rfl (qR rfl rfl (qS 4 rfl (ok_assign · (.bool _)) (rE ?_))))
  try dsimp only [w0,w1,w2,w3]
  cases h
  exact q_ret rfl at_.at_ rfl (res1 rfl rfl) ⟨rfl,rfl⟩
 ·refine q_cond_f rfl (.tmp rfl) (bfalse hc1) (q_skipc rfl (qQ rfl (qQ rfl (qR rfl rfl (qS 5 rfl (ok_assign · (.int _ _)) (rE ?_))))))
  try dsimp only [w0,w1,w2,w3]
  refine q_block rfl (q_loop rfl ?_)
  try dsimp only [w0,w1,w2,w3]
  exact L0_snd  h
end
end rollcallref01_Texts
namespace rollcalllaw21_awake
theorem at_ : FnAt Tryz.prog 4 Tryz.f4 := ⟨Tryz.func4,by kernel_rfl⟩
noncomputable def d0 := (Tryz.f4.body).getD .skip
noncomputable def r1 := kR (kA d0)
noncomputable def r3 := kR (kA (kB d0))
noncomputable def r5 := kR (kA (kB (kB d0)))
noncomputable def r7 := kR (kA (kB (kB (kB d0))))
noncomputable def c8 : Code := .ret
noncomputable def c0 : Code := .seq (.region 0 r1 false) (.seq (.region 1 r3 false) (.seq (.region 2 r5 false) (.seq (.region 3 r7 false) c8)))
theorem body : Tryz.f4.body = some c0 := by kernel_rfl
section
variable {base : Nat} {W0 : World} {β0 : Bt}
def J4 (k : Nat) (y43 : Bool) (S : HS) : Option ((Bool) × HS) :=
 some (y43,S)
theorem J4_snd {k : Nat}  {y43 : Bool} {S : HS} {p : (Bool) × HS} {Ga Gb Gc Gd Ge Gf Gg Gh Gi Gj Gk Gl Gm Gn Go Gp Gq Gr Gs Gt Gu Gv Gw Gx Gy Gz Ka Kb Kc Kd Ke Kf Kg Kh Ki Kj Kk Kl Km Kn Ko Kp Kq : HV} (h : J4 k y43 S = some p) : HRun Tryz.prog base W0 β0 4 none [.inRegion r7 [33],.code c8] ⟨[Ga,Gb,Gc,Gd,Ge,Gf,Gg,Gh,Gi,Gj,Gk,Gl,Gm,Gn,Go,Gp,Gq,Gr,Gs,Gt,Gu,Gv,Gw,Gx,Gy,Gz,Ka,Kb,Kc,Kd,Ke,Kf,Kg,Kh,Ki,Kj,Kk,Kl,Km,Kn,Ko,Kp,Kq,(.bool y43)],[]⟩ S (fun v S1 => v = (.bool p.1) ∧ S1 = p.2) := by
 unfold J4 at h
 refine qS 0 rfl (oA · rfl) (rE ?_)
 try dsimp only [w0,w1,w2,w3]
 cases h
 exact q_ret rfl at_.at_ rfl (res1 rfl rfl) ⟨rfl,rfl⟩
def J3 (k : Nat) (y3 : Sl) (y36 : Bool) (S : HS) : Option ((Bool) × HS) :=
 (if y36 = true then
 (Option.bind (HS.idx S y3 2 2) fun p20 =>
 (Option.bind (HS.ldI S .u8 (HA.fld p20 0)) fun p21 =>
 (Option.bind (HS.ldS S (HA.fld p20 1)) fun p22 =>
 (Option.bind (kSames [(.int .u8 p21),(.str p22)] [(.int .u8 67),(.str [])]) fun p23 =>
 J4 k (p23) S)))) else
 J4 k false S)
theorem J3_snd {k : Nat}  {y3 : Sl} {y36 : Bool} {S : HS} {p : (Bool) × HS} {Ga Gb Gc Ge Gf Gg Gh Gi Gj Gk Gl Gm Gn Go Gp Gq Gr Gs Gt Gu Gv Gw Gx Gy Gz Ka Kb Kc Kd Ke Kf Kg Kh Ki Kj Kl Km Kn Ko Kp Kq Kr : HV} (h : J3 k y3 y36 S = some p) : HRun Tryz.prog base W0 β0 4 none [.inRegion r7 [26,27,28,29,30,31,32,33],.code c8] ⟨[Ga,Gb,Gc,(Sl.hv y3),Ge,Gf,Gg,Gh,Gi,Gj,Gk,Gl,Gm,Gn,Go,Gp,Gq,Gr,Gs,Gt,Gu,Gv,Gw,Gx,Gy,Gz,Ka,Kb,Kc,Kd,Ke,Kf,Kg,Kh,Ki,Kj,(.bool y36),Kl,Km,Kn,Ko,Kp,Kq,Kr],[]⟩ S (fun v S1 => v = (.bool p.1) ∧ S1 = p.2) := by
 unfold J3 at h
 refine qS 37 rfl (oM · rfl) ?_
 rcases ifc h with ⟨hc19,h⟩ | ⟨hc19,h⟩
 ·refine qG 37 38 rfl hc19 (oM · rfl) ?_
  try dsimp only [w0,w1,w2,w3]
  obtain ⟨p20,hp20,h⟩ := bindo h
  obtain ⟨p21,hp21,h⟩ := bindo h
  obtain ⟨p22,hp22,h⟩ := bindo h
  obtain ⟨p23,hp23,h⟩ := bindo h
  refine qG 37 39 rfl hc19 (ok_indexAddr (s := y3) · tu51 sz54 (.tmp rfl) (.int _ _) hp20) (qG 37 40 rfl hc19 (ok_load_a (vs := [(.int .u8 p21),(.str p22)]) · ia54 (.tmp rfl) rfl ⟨ldI_out hp21,ldS_out hp22,trivial⟩ (by simp)) (qG 37 41 rfl hc19 (ok_build (is := [0]) (xs := [(.const (.int .u8 67))]) (r := [(.int .u8 67),(.str [])]) st54 · rfl rfl (.cons (.int _ _) Evs.nil) rfl) (qG 37 42 rfl hc19 (ok_agg_eq · sk54 eg54 rfl (.tmp rfl) (.tmp rfl) hp23 (.inl ⟨rfl,rfl⟩)) ?_)))
  try dsimp only [w0,w1,w2,w3]
  refine qS 43 rfl (ok_pick_tt · (.tmp rfl) hc19 (.tmp rfl)) ?_
  try dsimp only [w0,w1,w2,w3]
  exact J4_snd  h
 ·refine q_skip (dst := some 38) (t := 37) rfl rfl rfl (bfalse hc19) ?_
  try dsimp only [w0,w1,w2,w3]
  refine q_skip (dst := some 39) (t := 37) rfl rfl rfl (bfalse hc19) (q_skip (dst := some 40) (t := 37) rfl rfl rfl (bfalse hc19) (q_skip (dst := some 41) (t := 37) rfl rfl rfl (bfalse hc19) (q_skip (dst := some 42) (t := 37) rfl rfl rfl (bfalse hc19) ?_)))
  try dsimp only [w0,w1,w2,w3]
  refine qS 43 rfl (ok_pick_ff · (.tmp rfl) (bfalse hc19) (.bool _)) ?_
  try dsimp only [w0,w1,w2,w3]
  exact J4_snd  h
def J2 (k : Nat) (y3 : Sl) (y29 : Bool) (S : HS) : Option ((Bool) × HS) :=
 (if y29 = true then
 (Option.bind (HS.idx S y3 1 2) fun p15 =>
 (Option.bind (HS.ldI S .u8 (HA.fld p15 0)) fun p16 =>
 (Option.bind (HS.ldS S (HA.fld p15 1)) fun p17 =>
 (Option.bind (kSames [(.int .u8 p16),(.str p17)] [(.int .u8 45),(.str ([98,111,98] : List UInt8))]) fun p18 =>
 J3 k y3 (p18) S)))) else
 J3 k y3 false S)
theorem J2_snd {k : Nat}  {y3 : Sl} {y29 : Bool} {S : HS} {p : (Bool) × HS} {Ga Gb Gc Ge Gf Gg Gh Gi Gj Gk Gl Gm Gn Go Gp Gq Gr Gs Gt Gu Gv Gw Gx Gy Gz Ka Kb Kc Ke Kf Kg Kh Ki Kj Kk Kl Km Kn Ko Kp Kq Kr : HV} (h : J2 k y3 y29 S = some p) : HRun Tryz.prog base W0 β0 4 none [.inRegion r7 [19,20,21,22,23,24,25,26,27,28,29,30,31,32,33],.code c8] ⟨[Ga,Gb,Gc,(Sl.hv y3),Ge,Gf,Gg,Gh,Gi,Gj,Gk,Gl,Gm,Gn,Go,Gp,Gq,Gr,Gs,Gt,Gu,Gv,Gw,Gx,Gy,Gz,Ka,Kb,Kc,(.bool y29),Ke,Kf,Kg,Kh,Ki,Kj,Kk,Kl,Km,Kn,Ko,Kp,Kq,Kr],[]⟩ S (fun v S1 => v = (.bool p.1) ∧ S1 = p.2) := by
 unfold J2 at h
 refine qS 30 rfl (oM · rfl) ?_
 try dsimp only [w0,w1,w2,w3]
 rcases ifc h with ⟨hc14,h⟩ | ⟨hc14,h⟩
 ·obtain ⟨p15,hp15,h⟩ := bindo h
  obtain ⟨p16,hp16,h⟩ := bindo h
  obtain ⟨p17,hp17,h⟩ := bindo h
  refine qG 30 31 rfl hc14 (oM · rfl) (qG 30 32 rfl hc14 (ok_indexAddr (s := y3) · tu51 sz54 (.tmp rfl) (.int _ _) hp15) (qG 30 33 rfl hc14 (ok_load_a (vs := [(.int .u8 p16),(.str p17)]) · ia54 (.tmp rfl) rfl ⟨ldI_out hp16,ldS_out hp17,trivial⟩ (by simp)) (qG 30 34 rfl hc14 (ok_build (is := [0,1]) (xs := [(.const (.int .u8 45)),(.const (.string ⟨#[98,111,98]⟩))]) (r := [(.int .u8 45),(.str ([98,111,98] : List UInt8))]) st54 · rfl rfl (.cons (.int _ _) (.cons (.str _) Evs.nil)) rfl) ?_)))
  try dsimp only [w0,w1,w2,w3]
  obtain ⟨p18,hp18,h⟩ := bindo h
  refine qG 30 35 rfl hc14 (ok_agg_eq · sk54 eg54 rfl (.tmp rfl) (.tmp rfl) hp18 (.inl ⟨rfl,rfl⟩)) (qS 36 rfl (ok_pick_tt · (.tmp rfl) hc14 (.tmp rfl)) ?_)
  try dsimp only [w0,w1,w2,w3]
  exact J3_snd  h
 ·refine q_skip (dst := some 31) (t := 30) rfl rfl rfl (bfalse hc14) (q_skip (dst := some 32) (t := 30) rfl rfl rfl (bfalse hc14) (q_skip (dst := some 33) (t := 30) rfl rfl rfl (bfalse hc14) (q_skip (dst := some 34) (t := 30) rfl rfl rfl (bfalse hc14) ?_)))
  try dsimp only [w0,w1,w2,w3]
  refine q_skip (dst := some 35) (t := 30) rfl rfl rfl (bfalse hc14) (qS 36 rfl (ok_pick_ff · (.tmp rfl) (bfalse hc14) (.bool _)) ?_)
  try dsimp only [w0,w1,w2,w3]
  exact J3_snd  h
def J1 (k : Nat) (y3 : Sl) (y22 : Bool) (S : HS) : Option ((Bool) × HS) :=
 (if y22 = true then
 (Option.bind (HS.idx S y3 0 2) fun p10 =>
 (Option.bind (HS.ldI S .u8 (HA.fld p10 0)) fun p11 =>
 (Option.bind (HS.ldS S (HA.fld p10 1)) fun p12 =>
 (Option.bind (kSames [(.int .u8 p11),(.str p12)] [(.int .u8 43),(.str ([97,110,110] : List UInt8))]) fun p13 =>
 J2 k y3 (p13) S)))) else
 J2 k y3 false S)
theorem J1_snd {k : Nat}  {y3 : Sl} {y22 : Bool} {S : HS} {p : (Bool) × HS} {Ga Gb Gc Ge Gf Gg Gh Gi Gj Gk Gl Gm Gn Go Gp Gq Gr Gs Gt Gu Gv Gx Gy Gz Ka Kb Kc Kd Ke Kf Kg Kh Ki Kj Kk Kl Km Kn Ko Kp Kq Kr : HV} (h : J1 k y3 y22 S = some p) : HRun Tryz.prog base W0 β0 4 none [.inRegion r7 [12,13,14,15,16,17,18,19,20,21,22,23,24,25,26,27,28,29,30,31,32,33],.code c8] ⟨[Ga,Gb,Gc,(Sl.hv y3),Ge,Gf,Gg,Gh,Gi,Gj,Gk,Gl,Gm,Gn,Go,Gp,Gq,Gr,Gs,Gt,Gu,Gv,(.bool y22),Gx,Gy,Gz,Ka,Kb,Kc,Kd,Ke,Kf,Kg,Kh,Ki,Kj,Kk,Kl,Km,Kn,Ko,Kp,Kq,Kr],[]⟩ S (fun v S1 => v = (.bool p.1) ∧ S1 = p.2) := by
 unfold J1 at h
 refine qS 23 rfl (oM · rfl) ?_
 rcases ifc h with ⟨hc9,h⟩ | ⟨hc9,h⟩
 ·obtain ⟨p10,hp10,h⟩ := bindo h
  obtain ⟨p11,hp11,h⟩ := bindo h
  obtain ⟨p12,hp12,h⟩ := bindo h
  refine qG 23 24 rfl hc9 (oM · rfl) (qG 23 25 rfl hc9 (ok_indexAddr (s := y3) · tu51 sz54 (.tmp rfl) (.int _ _) hp10) (qG 23 26 rfl hc9 (ok_load_a (vs := [(.int .u8 p11),(.str p12)]) · ia54 (.tmp rfl) rfl ⟨ldI_out hp11,ldS_out hp12,trivial⟩ (by simp)) ?_))
  try dsimp only [w0,w1,w2,w3]
  obtain ⟨p13,hp13,h⟩ := bindo h
  refine qG 23 27 rfl hc9 (ok_build (is := [0,1]) (xs := [(.const (.int .u8 43)),(.const (.string ⟨#[97,110,110]⟩))]) (r := [(.int .u8 43),(.str ([97,110,110] : List UInt8))]) st54 · rfl rfl (.cons (.int _ _) (.cons (.str _) Evs.nil)) rfl) (qG 23 28 rfl hc9 (ok_agg_eq · sk54 eg54 rfl (.tmp rfl) (.tmp rfl) hp13 (.inl ⟨rfl,rfl⟩)) (qS 29 rfl (ok_pick_tt · (.tmp rfl) hc9 (.tmp rfl)) ?_))
  try dsimp only [w0,w1,w2,w3]
  exact J2_snd  h
 ·refine q_skip (dst := some 24) (t := 23) rfl rfl rfl (bfalse hc9) (q_skip (dst := some 25) (t := 23) rfl rfl rfl (bfalse hc9) (q_skip (dst := some 26) (t := 23) rfl rfl rfl (bfalse hc9) ?_))
  try dsimp only [w0,w1,w2,w3]
  refine q_skip (dst := some 27) (t := 23) rfl rfl rfl (bfalse hc9) (q_skip (dst := some 28) (t := 23) rfl rfl rfl (bfalse hc9) (qS 29 rfl (ok_pick_ff · (.tmp rfl) (bfalse hc9) (.bool _)) ?_))
  try dsimp only [w0,w1,w2,w3]
  exact J2_snd  h
def J0 (k : Nat) (y3 : Sl) (y17 : Bool) (S : HS) : Option ((Bool) × HS) :=
 (if y17 = true then
 J1 k y3 (decide ((Sl.len y3 : Int) = 3)) S else
 J1 k y3 false S)
theorem J0_snd {k : Nat}  {y3 : Sl} {y17 : Bool} {S : HS} {p : (Bool) × HS} {Ga Gb Gc Ge Gf Gg Gh Gi Gj Gk Gl Gm Gn Go Gp Gq Gs Gt Gu Gv Gw Gx Gy Gz Ka Kb Kc Kd Ke Kf Kg Kh Ki Kj Kk Kl Km Kn Ko Kp Kq Kr : HV} (h : J0 k y3 y17 S = some p) : HRun Tryz.prog base W0 β0 4 none [.inRegion r7 [7,8,9,10,11,12,13,14,15,16,17,18,19,20,21,22,23,24,25,26,27,28,29,30,31,32,33],.code c8] ⟨[Ga,Gb,Gc,(Sl.hv y3),Ge,Gf,Gg,Gh,Gi,Gj,Gk,Gl,Gm,Gn,Go,Gp,Gq,(.bool y17),Gs,Gt,Gu,Gv,Gw,Gx,Gy,Gz,Ka,Kb,Kc,Kd,Ke,Kf,Kg,Kh,Ki,Kj,Kk,Kl,Km,Kn,Ko,Kp,Kq,Kr],[]⟩ S (fun v S1 => v = (.bool p.1) ∧ S1 = p.2) := by
 unfold J0 at h
 refine qS 18 rfl (oM · rfl) ?_
 try dsimp only [w0,w1,w2,w3]
 rcases ifc h with ⟨hc8,h⟩ | ⟨hc8,h⟩
 ·refine qG 18 19 rfl hc8 (oM · rfl) (qG 18 20 rfl hc8 (ok_len_sl (q := Sl.a y3) (n := Sl.len y3) (z := Sl.cap y3) · rfl tu51 (.tmp rfl)) (qG 18 21 rfl hc8 (oC · rfl rfl) (qS 22 rfl (ok_pick_tt · (.tmp rfl) hc8 (.tmp rfl)) ?_)))
  try dsimp only [w0,w1,w2,w3]
  try dsimp only [w0,w1,w2,w3]
  exact J1_snd  h
 ·refine q_skip (dst := some 19) (t := 18) rfl rfl rfl (bfalse hc8) (q_skip (dst := some 20) (t := 18) rfl rfl rfl (bfalse hc8) (q_skip (dst := some 21) (t := 18) rfl rfl rfl (bfalse hc8) (qS 22 rfl (ok_pick_ff · (.tmp rfl) (bfalse hc8) (.bool _)) ?_)))
  try dsimp only [w0,w1,w2,w3]
  try dsimp only [w0,w1,w2,w3]
  exact J1_snd  h
def f (k : Nat) (S : HS) : Option ((Bool) × HS) :=
 (letv (HS.lit S [[(.str ([43] : List UInt8))],[(.str ([97,110,110,44,44,49,120,44,98,111,98] : List UInt8))]] 1) fun p1 =>
 (Option.bind (wish_Monitor.f k (p1.1) (p1.2)) fun p2 =>
 (letv (HS.lit p2.2 [[(.str ([43,97,110,110] : List UInt8))],[(.str ([45,98,111,98] : List UInt8))],[(.str ([99] : List UInt8))],[(.str ([120] : List UInt8))]] 1) fun p3 =>
 (Option.bind (wish_Watch.f k (p3.1) (p3.2)) fun p4 =>
 (if p2.1.1 = 43 then
 (letv (HS.lit p4.2 [[(.str ([97,110,110] : List UInt8))],[(.str ([98,111,98] : List UInt8))]] 1) fun p6 =>
 (Option.bind (rollcallref01_Texts.f k p2.1.2 (p6.1) (p6.2)) fun p7 =>
 J0 k p4.1 p7.1 p7.2)) else
 J0 k p4.1 false p4.2)))))
theorem snd {k : Nat} {S : HS}  {p : (Bool) × HS} (h : f k S = some p) : HCall Tryz.prog base W0 β0 4 [] S (fun v S1 => v = (.bool p.1) ∧ S1 = p.2) := by
 unfold f at h
 refine HCall.of_run at_.at_ body ?_
 show HRun Tryz.prog base W0 β0 4 none [.code c0] ⟨[τ,τ,τ,τ,τ,τ,τ,τ,τ,τ,τ,τ,τ,τ,τ,τ,τ,τ,τ,τ,τ,τ,τ,τ,τ,τ,τ,τ,τ,τ,τ,τ,τ,τ,τ,τ,τ,τ,τ,τ,τ,τ,τ,τ],[]⟩ S _
 refine qQ rfl (qR rfl rfl (qS 0 rfl (ok_assign · (.bool _)) (rE ?_)))
 try dsimp only [w0,w1,w2,w3]
 obtain ⟨p1,hp1,h⟩ := leto h
 obtain ⟨p2,hp2,h⟩ := bindo h
 refine qQ rfl (qR rfl rfl (qS 5 rfl (ok_buildSlice_s (xs := [(.const (.string ⟨#[43]⟩)),(.const (.string ⟨#[97,110,110,44,44,49,120,44,98,111,98]⟩))]) el38 · rfl rfl (by decide) (.cons (.str _) (.cons (.str _) Evs.nil)) rfl rfl hp1) (q_call (dst := some 6) rfl (.func _) (.cons (.tmp rfl) Evs.nil) (HInv.static wish_Monitor.at_ wish_Monitor.body (wish_Monitor.snd  hp2)) ?_)))
 rintro _ _ ⟨rfl,rfl⟩
 refine qS 4 rfl (oM · rfl) (qS 7 rfl (ok_extract · (.tmp rfl) rfl) ?_)
 try dsimp only [w0,w1,w2,w3]
 refine qS 8 rfl (ok_extract · (.tmp rfl) rfl) (qS 1 rfl (oA · rfl) (qS 2 rfl (oA · rfl) (rE ?_)))
 try dsimp only [w0,w1,w2,w3]
 obtain ⟨p3,hp3,h⟩ := leto h
 obtain ⟨p4,hp4,h⟩ := bindo h
 refine qQ rfl (qR rfl rfl (qS 9 rfl (ok_buildSlice_s (xs := [(.const (.string ⟨#[43,97,110,110]⟩)),(.const (.string ⟨#[45,98,111,98]⟩)),(.const (.string ⟨#[99]⟩)),(.const (.string ⟨#[120]⟩))]) el38 · rfl rfl (by decide) (.cons (.str _) (.cons (.str _) (.cons (.str _) (.cons (.str _) Evs.nil)))) rfl rfl hp3) (q_call (dst := some 10) rfl (.func _) (.cons (.tmp rfl) Evs.nil) (HInv.static wish_Watch.at_ wish_Watch.body (wish_Watch.snd  hp4)) ?_)))
 rintro _ _ ⟨rfl,rfl⟩
 refine qS 3 rfl (oA · rfl) (rE ?_)
 try dsimp only [w0,w1,w2,w3]
 refine qQ rfl (qR rfl rfl (qS 11 rfl (oM · rfl) (qS 12 rfl (oC · rfl rfl) (qS 13 rfl (oM · rfl) ?_))))
 rcases ifc h with ⟨hc5,h⟩ | ⟨hc5,h⟩
 ·refine qG 13 14 rfl (decide_eq_true hc5) (oM · rfl) ?_
  try dsimp only [w0,w1,w2,w3]
  obtain ⟨p6,hp6,h⟩ := leto h
  obtain ⟨p7,hp7,h⟩ := bindo h
  refine qG 13 15 rfl (decide_eq_true hc5) (ok_buildSlice_s (xs := [(.const (.string ⟨#[97,110,110]⟩)),(.const (.string ⟨#[98,111,98]⟩))]) el38 · rfl rfl (by decide) (.cons (.str _) (.cons (.str _) Evs.nil)) rfl rfl hp6) (q_call_g (t := 13) (dst := some 16) rfl rfl rfl (decide_eq_true hc5) (.func _) (.cons (.tmp rfl) (.cons (.tmp rfl) Evs.nil)) (HInv.static rollcallref01_Texts.at_ rollcallref01_Texts.body (rollcallref01_Texts.snd  hp7)) ?_)
  rintro _ _ ⟨rfl,rfl⟩
  refine qS 17 rfl (ok_pick_tt · (.tmp rfl) (decide_eq_true hc5) (.tmp rfl)) ?_
  try dsimp only [w0,w1,w2,w3]
  exact J0_snd  h
 ·refine q_skip (dst := some 14) (t := 13) rfl rfl rfl (decide_eq_false hc5) ?_
  try dsimp only [w0,w1,w2,w3]
  refine q_skip (dst := some 15) (t := 13) rfl rfl rfl (decide_eq_false hc5) (q_skip (dst := some 16) (t := 13) rfl rfl rfl (decide_eq_false hc5) (qS 17 rfl (ok_pick_ff · (.tmp rfl) (decide_eq_false hc5) (.bool _)) ?_))
  try dsimp only [w0,w1,w2,w3]
  exact J0_snd  h
end
end rollcalllaw21_awake
namespace rollcalllaw21_great
theorem at_ : FnAt Tryz.prog 5 Tryz.f5 := ⟨Tryz.func5,by kernel_rfl⟩
noncomputable def d0 := (Tryz.f5.body).getD .skip
noncomputable def r1 := kR (kA d0)
noncomputable def r4 := kR (kA (kA (kB d0)))
noncomputable def r7 := kR (kA (kA (kB (kA (kB d0)))))
noncomputable def d11 := kA (kB (kB d0))
noncomputable def r12 := kR (kA d11)
noncomputable def d15 := kA (kA (kB d11))
noncomputable def r17 := kR (kA (kA d15))
noncomputable def r24 := kR (kA (kA (kA (kB d15))))
noncomputable def r27 := kR (kA (kA (kB (kA (kA (kB d15))))))
noncomputable def r30 := kR (kB (kB d15))
noncomputable def r32 := kR (kA (kB (kB (kB d0))))
noncomputable def c31 : Code := .seq (.region 8 r32 false) .ret
noncomputable def c15 : Code := .seq (.seq (.region 4 r17 false) (.cond (.tmp 10) .skip (.exit 0))) (.seq (.block 1 (.seq (.region 6 r24 false) (.cond (.tmp 19) (.seq (.region 7 r27 false) .ret) .skip))) (.region 5 r30 false))
noncomputable def c0 : Code := .seq (.region 0 r1 false) (.seq (.seq (.region 1 r4 false) (.cond (.tmp 6) (.seq (.region 2 r7 false) .ret) .skip)) (.seq (.seq (.region 3 r12 false) (.block 0 (.loop c15))) c31))
theorem body : Tryz.f5.body = some c0 := by kernel_rfl
section
variable {base : Nat} {W0 : World} {β0 : Bt}
def L0 (k : Nat) : Nat → Sl → Int → HS → Option ((Bool) × HS)
 | 0,_,_,_ => none
 | n + 1,y0,y3,S =>
  (if y3 < (Sl.len y0 : Int) then
  (Option.bind (HS.idx S y0 y3 3) fun p3 =>
  (Option.bind (HS.ldS S (HA.fld p3 2)) fun p4 =>
  (if (List.length p4 : Int) > 30 then
  some (true,S) else
  (L0 k n) y0 (w64 (y3 + 1)) S))) else
  some (false,S))
theorem L0_snd {k : Nat}  : ∀ {n : Nat} ⦃y0 : Sl⦄ ⦃y3 : Int⦄ ⦃S : HS⦄ ⦃p : (Bool) × HS⦄ ⦃Gb Gc Ge Gf Gg Gh Gi Gj Gk Gl Gm Gn Go Gp Gq Gr Gs Gt : HV⦄,L0 k n y0 y3 S = some p → HRun Tryz.prog base W0 β0 5 none [.inLoop c15,.inBlock 0,.code c31] ⟨[(Sl.hv y0),Gb,Gc,(.int .i64 y3),Ge,Gf,Gg,Gh,Gi,Gj,Gk,Gl,Gm,Gn,Go,Gp,Gq,Gr,Gs,Gt],[]⟩ S (fun v S1 => v = (.bool p.1) ∧ S1 = p.2) := by
 intro n
 induction n with
 | zero => intro _ _ _ _ _ _ _ _ _ _ _ _ _ _ _ _ _ _ _ _ _ _ h; cases h
 | succ n ih =>
  intro y0 y3 S p Gb Gc Ge Gf Gg Gh Gi Gj Gk Gl Gm Gn Go Gp Gq Gr Gs Gt h
  simp only [L0] at h
  refine hr_inLoop (qQ rfl (qQ rfl (qR rfl rfl (qS 7 rfl (oM · rfl) (qS 8 rfl (oM · rfl) (qS 9 rfl (ok_len_sl (q := Sl.a y0) (n := Sl.len y0) (z := Sl.cap y0) · rfl tu22 (.tmp rfl)) (qS 10 rfl (oB · rfl rfl rfl) (rE ?_))))))))
  try dsimp only [w0,w1,w2,w3]
  rcases ifc h with ⟨hc2,h⟩ | ⟨hc2,h⟩
  ·obtain ⟨p3,hp3,h⟩ := bindo h
   refine q_cond_t rfl (.tmp rfl) (decide_eq_true hc2) (q_skipc rfl (qQ rfl (q_block rfl (qQ rfl (qR rfl rfl (qS 13 rfl (oM · rfl) (qS 14 rfl (oM · rfl) (qS 15 rfl (oX (s := y0) · tu22 sz32 rfl rfl hp3) (qS 16 rfl (oF · fi32_2 (by decide) rfl rfl) ?_)))))))))
   try dsimp only [w0,w1,w2,w3]
   obtain ⟨p4,hp4,h⟩ := bindo h
   refine qS 17 rfl (oL · sc9 rfl rfl (ldS_out hp4)) (qS 18 rfl (ok_len_str · rfl tu9 (.tmp rfl)) (qS 19 rfl (oC · rfl rfl) (rE ?_)))
   try dsimp only [w0,w1,w2,w3]
   rcases ifc h with ⟨hc5,h⟩ | ⟨hc5,h⟩
   ·refine q_cond_t rfl (.tmp rfl) (decide_eq_true hc5) (qQ rfl (qR rfl rfl (qS 2 rfl (ok_assign · (.bool _)) (rE ?_))))
    try dsimp only [w0,w1,w2,w3]
    cases h
    exact q_ret rfl at_.at_ rfl (res1 rfl rfl) ⟨rfl,rfl⟩
   ·refine q_cond_f rfl (.tmp rfl) (decide_eq_false hc5) (q_skipc rfl (hr_inBlock (qR rfl rfl (qS 11 rfl (oM · rfl) (qS 12 rfl (oC · rfl rfl) (qS 3 rfl (oA · rfl) (rE ?_)))))))
    try dsimp only [w0,w1,w2,w3]
    try dsimp only [w0,w1,w2,w3]
    exact ih h
  ·refine q_cond_f rfl (.tmp rfl) (decide_eq_false hc2) (q_exit rfl rfl (qQ rfl (qR rfl rfl (qS 2 rfl (ok_assign · (.bool _)) (rE ?_)))))
   try dsimp only [w0,w1,w2,w3]
   cases h
   exact q_ret rfl at_.at_ rfl (res1 rfl rfl) ⟨rfl,rfl⟩
def f (k : Nat) (x0 : Sl) (S : HS) : Option ((Bool) × HS) :=
 (if (Sl.len x0 : Int) > 40 then
 some (true,S) else
 L0 k k x0 0 S)
theorem snd {k : Nat} {x0 : Sl} {S : HS}  {p : (Bool) × HS} (h : f k x0 S = some p) : HCall Tryz.prog base W0 β0 5 [(Sl.hv x0)] S (fun v S1 => v = (.bool p.1) ∧ S1 = p.2) := by
 unfold f at h
 refine HCall.of_run at_.at_ body ?_
 show HRun Tryz.prog base W0 β0 5 none [.code c0] ⟨[(Sl.hv x0),τ,τ,τ,τ,τ,τ,τ,τ,τ,τ,τ,τ,τ,τ,τ,τ,τ,τ,τ],[]⟩ S _
 refine qQ rfl (qR rfl rfl (qS 2 rfl (ok_assign · (.bool _)) (rE ?_)))
 try dsimp only [w0,w1,w2,w3]
 refine qQ rfl (qQ rfl (qR rfl rfl (qS 4 rfl (oM · rfl) (qS 5 rfl (ok_len_sl (q := Sl.a x0) (n := Sl.len x0) (z := Sl.cap x0) · rfl tu22 (.tmp rfl)) (qS 6 rfl (oC · rfl rfl) (rE ?_))))))
 try dsimp only [w0,w1,w2,w3]
 rcases ifc h with ⟨hc1,h⟩ | ⟨hc1,h⟩
 ·refine q_cond_t rfl (.tmp rfl) (decide_eq_true hc1) (qQ rfl (qR rfl rfl (qS 2 rfl (ok_assign · (.bool _)) (rE ?_))))
  try dsimp only [w0,w1,w2,w3]
  cases h
  exact q_ret rfl at_.at_ rfl (res1 rfl rfl) ⟨rfl,rfl⟩
 ·refine q_cond_f rfl (.tmp rfl) (decide_eq_false hc1) (q_skipc rfl (qQ rfl (qQ rfl (qR rfl rfl (qS 3 rfl (ok_assign · (.int _ _)) (rE ?_))))))
  try dsimp only [w0,w1,w2,w3]
  refine q_block rfl (q_loop rfl ?_)
  try dsimp only [w0,w1,w2,w3]
  exact L0_snd  h
end
end rollcalllaw21_great
namespace pair_New_int_string
theorem at_ : FnAt Tryz.prog 24 Tryz.f24 := ⟨Tryz.func24,by kernel_rfl⟩
noncomputable def d0 := (Tryz.f24.body).getD .skip
noncomputable def r1 := kR (kA d0)
noncomputable def r4 := kR (kA (kA (kB d0)))
noncomputable def r7 := kR (kA (kA (kB (kA (kB d0)))))
noncomputable def r11 := kR (kA (kB (kB d0)))
noncomputable def c10 : Code := .seq (.region 3 r11 false) .ret
noncomputable def c5 : Code := .cond (.tmp 9) (.seq (.region 2 r7 false) .ret) .skip
noncomputable def c0 : Code := .seq (.region 0 r1 false) (.seq (.seq (.region 1 r4 false) c5) c10)
theorem body : Tryz.f24.body = some c0 := by kernel_rfl
section
variable {base : Nat} {W0 : World} {β0 : Bt}
def J0  (y0 : Int) (y9 : Bool) (S : HS) : Option (((Option HA) × Int) × HS) :=
 (if y9 = true then
 some ((none,2),S) else
 (letv (HS.new S (.map [])) fun p3 =>
 (letv (HS.new p3 (.map [])) fun p4 =>
 (letv (HS.new p4 (.cells 4 [[(.int .i64 y0),(.int .i64 0),(.map (some S.next)),(.map (some p3.next))]] true)) fun p5 =>
 some (((some (HA.cell0 p4.next)),0),p5)))))
theorem J0_snd   {y0 : Int} {y9 : Bool} {S : HS} {p : ((Option HA) × Int) × HS} {Gb Gc Gd Ge Gf Gg Gh Gi Gk Gl Gm Gn Go : HV} (h : J0  y0 y9 S = some p) : HRun Tryz.prog base W0 β0 24 none [.code c5,.code c10] ⟨[(.int .i64 y0),Gb,Gc,Gd,Ge,Gf,Gg,Gh,Gi,(.bool y9),Gk,Gl,Gm,Gn,Go],[]⟩ S (fun v S1 => v = (.tup [(.ptr p.1.1),(.int .i64 p.1.2)]) ∧ S1 = p.2) := by
 unfold J0 at h
 rcases ifc h with ⟨hc2,h⟩ | ⟨hc2,h⟩
 ·refine q_cond_t rfl (.tmp rfl) hc2 (qQ rfl (qR rfl rfl (qS 2 rfl (ok_assign · (.const fun _ => .ptrNil)) (qS 3 rfl (ok_assign · (.int _ _)) (rE ?_)))))
  try dsimp only [w0,w1,w2,w3]
  cases h
  exact q_ret rfl at_.at_ rfl (res2 rfl rfl rfl) ⟨rfl,rfl⟩
 ·obtain ⟨p3,hp3,h⟩ := leto h
  obtain ⟨p4,hp4,h⟩ := leto h
  refine q_cond_f rfl (.tmp rfl) (bfalse hc2) (q_skipc rfl (qQ rfl (qR rfl rfl (qS 10 rfl (oM · rfl) (qS 11 rfl (ok_makeMap_e · hp3) (qS 12 rfl (ok_makeMap_e · hp4) (qS 13 rfl (ok_build (is := [0,2,3]) (xs := [(.tmp 10),(.tmp 11),(.tmp 12)]) (r := [(.int .i64 y0),(.int .i64 0),(.map (some S.next)),(.map (some p3.next))]) st81 · rfl rfl (.cons (.tmp rfl) (.cons (.tmp rfl) (.cons (.tmp rfl) Evs.nil))) rfl) ?_)))))))
  try dsimp only [w0,w1,w2,w3]
  obtain ⟨p5,hp5,h⟩ := leto h
  refine qS 14 rfl (ok_box_e · (.tmp rfl) (Nat.zero_lt_succ _) rfl hp5) (qS 2 rfl (oA · rfl) (qS 3 rfl (ok_assign · (.int _ _)) (rE ?_)))
  try dsimp only [w0,w1,w2,w3]
  cases h
  exact q_ret rfl at_.at_ rfl (res2 rfl rfl rfl) ⟨rfl,rfl⟩
def f (x0 : Int) (S : HS) : Option (((Option HA) × Int) × HS) :=
 (if x0 < 0 then
 J0 x0 true S else
 J0 x0 (decide (x0 > 100000)) S)
theorem snd {x0 : Int} {S : HS}  {p : ((Option HA) × Int) × HS} (h : f x0 S = some p) : HCall Tryz.prog base W0 β0 24 [(.int .i64 x0)] S (fun v S1 => v = (.tup [(.ptr p.1.1),(.int .i64 p.1.2)]) ∧ S1 = p.2) := by
 unfold f at h
 refine HCall.of_run at_.at_ body ?_
 show HRun Tryz.prog base W0 β0 24 none [.code c0] ⟨[(.int .i64 x0),τ,τ,τ,τ,τ,τ,τ,τ,τ,τ,τ,τ,τ,τ],[]⟩ S _
 refine qQ rfl (qR rfl rfl (qS 2 rfl (ok_assign · (.const fun _ => .ptrNil)) (qS 3 rfl (ok_assign · (.int _ _)) (rE ?_))))
 try dsimp only [w0,w1,w2,w3]
 refine qQ rfl (qQ rfl (qR rfl rfl (qS 4 rfl (oM · rfl) (qS 5 rfl (oC · rfl rfl) (qS 6 rfl (oM · rfl) ?_)))))
 rcases ifc h with ⟨hc1,h⟩ | ⟨hc1,h⟩
 ·refine q_skip (dst := some 7) (t := 6) rfl rfl rfl (decide_eq_true hc1) ?_
  try dsimp only [w0,w1,w2,w3]
  refine q_skip (dst := some 8) (t := 6) rfl rfl rfl (decide_eq_true hc1) (qS 9 rfl (ok_pick_tt · (.tmp rfl) (decide_eq_true hc1) (.bool _)) (rE ?_))
  try dsimp only [w0,w1,w2,w3]
  try dsimp only [w0,w1,w2,w3]
  exact J0_snd  h
 ·refine qG 6 7 rfl (decide_eq_false hc1) (oM · rfl) ?_
  try dsimp only [w0,w1,w2,w3]
  refine qG 6 8 rfl (decide_eq_false hc1) (oC · rfl rfl) (qS 9 rfl (ok_pick_ff · (.tmp rfl) (decide_eq_false hc1) (.tmp rfl)) (rE ?_))
  try dsimp only [w0,w1,w2,w3]
  try dsimp only [w0,w1,w2,w3]
  exact J0_snd  h
end
end pair_New_int_string
namespace wish_New
theorem at_ : FnAt Tryz.prog 6 Tryz.f6 := ⟨Tryz.func6,by kernel_rfl⟩
noncomputable def d0 := (Tryz.f6.body).getD .skip
noncomputable def r1 := kR (kA d0)
noncomputable def r3 := kR (kA (kB d0))
noncomputable def r5 := kR (kA (kB (kB d0)))
noncomputable def c0 : Code := .seq (.region 0 r1 false) (.seq (.region 1 r3 false) (.seq (.region 2 r5 false) .ret))
theorem body : Tryz.f6.body = some c0 := by kernel_rfl
section
variable {base : Nat} {W0 : World} {β0 : Bt}
def f (x0 : Int) (S : HS) : Option (((Option HA)) × HS) :=
 (Option.bind (pair_New_int_string.f (mx 0 (mn x0 100000)) S) fun p1 =>
 (letv (HS.new p1.2 (.map [])) fun p2 =>
 (letv (HS.new p2 (.cells 2 [[(.ptr p1.1.1),(.map (some p1.2.next))]] true)) fun p3 =>
 some ((some (HA.cell0 p2.next)),p3))))
theorem snd {x0 : Int} {S : HS}  {p : ((Option HA)) × HS} (h : f x0 S = some p) : HCall Tryz.prog base W0 β0 6 [(.int .i64 x0)] S (fun v S1 => v = (.ptr p.1) ∧ S1 = p.2) := by
 unfold f at h
 refine HCall.of_run at_.at_ body ?_
 show HRun Tryz.prog base W0 β0 6 none [.code c0] ⟨[(.int .i64 x0),τ,τ,τ,τ,τ,τ,τ,τ,τ,τ,τ,τ,τ,τ,τ],[]⟩ S _
 refine qQ rfl (qR rfl rfl (qS 2 rfl (ok_assign · (.const fun _ => .ptrNil)) (rE ?_)))
 try dsimp only [w0,w1,w2,w3]
 obtain ⟨p1,hp1,h⟩ := bindo h
 refine qQ rfl (qR rfl rfl (qS 6 rfl (oM · rfl) (qS 7 rfl (ok_min · (.tmp rfl) (.int _ _)) (qS 8 rfl (ok_max · (.int _ _) (.tmp rfl)) (q_call (dst := some 9) rfl (.func _) (.cons (.tmp rfl) Evs.nil) (HInv.static pair_New_int_string.at_ pair_New_int_string.body (pair_New_int_string.snd  hp1)) ?_)))))
 rintro _ _ ⟨rfl,rfl⟩
 try dsimp only [w0,w1,w2,w3]
 refine qS 5 rfl (oM · rfl) (qS 10 rfl (ok_extract · (.tmp rfl) rfl) (qS 11 rfl (ok_extract · (.tmp rfl) rfl) (qS 3 rfl (oA · rfl) ?_)))
 try dsimp only [w0,w1,w2,w3]
 refine qS 4 rfl (oA · rfl) (rE ?_)
 try dsimp only [w0,w1,w2,w3]
 obtain ⟨p2,hp2,h⟩ := leto h
 obtain ⟨p3,hp3,h⟩ := leto h
 refine qQ rfl (qR rfl rfl (qS 12 rfl (oM · rfl) (qS 13 rfl (ok_makeMap_e · hp2) (qS 14 rfl (ok_build (is := [0,1]) (xs := [(.tmp 12),(.tmp 13)]) (r := [(.ptr p1.1.1),(.map (some p1.2.next))]) st60 · rfl rfl (.cons (.tmp rfl) (.cons (.tmp rfl) Evs.nil)) rfl) (qS 15 rfl (ok_box_e · (.tmp rfl) (Nat.zero_lt_succ _) rfl hp3) ?_)))))
 try dsimp only [w0,w1,w2,w3]
 refine qS 2 rfl (oA · rfl) (rE ?_)
 try dsimp only [w0,w1,w2,w3]
 cases h
 exact q_ret rfl at_.at_ rfl (res1 rfl rfl) ⟨rfl,rfl⟩
end
end wish_New
namespace fold_Byte
theorem at_ : FnAt Tryz.prog 38 Tryz.f38 := ⟨Tryz.func38,by kernel_rfl⟩
noncomputable def d0 := (Tryz.f38.body).getD .skip
noncomputable def r1 := kR (kA d0)
noncomputable def d4 := kA (kA (kB d0))
noncomputable def r5 := kR (kA d4)
noncomputable def r8 := kR (kA (kA (kB d4)))
noncomputable def r11 := kR (kA (kB (kB d4)))
noncomputable def r14 := kR (kA (kA (kB (kB (kB d4)))))
noncomputable def r17 := kR (kA (kB (kB (kB (kB d4)))))
noncomputable def r20 := kR (kA (kA (kB (kB (kB (kB (kB d4)))))))
noncomputable def r24 := kR (kA (kB (kB d0)))
noncomputable def c23 : Code := .seq (.region 7 r24 false) .ret
noncomputable def c12 : Code := .cond (.tmp 12) (.seq (.region 4 r14 false) .ret) (.seq (.region 5 r17 false) (.cond (.tmp 25) (.seq (.region 6 r20 false) .ret) .skip))
noncomputable def c6 : Code := .cond (.tmp 3) (.seq (.region 2 r8 false) .ret) (.seq (.region 3 r11 false) c12)
noncomputable def c0 : Code := .seq (.region 0 r1 false) (.seq (.block 0 (.seq (.region 1 r5 false) c6)) c23)
theorem body : Tryz.f38.body = some c0 := by kernel_rfl
section
variable {base : Nat} {W0 : World} {β0 : Bt}
def J2  (y0 : Int) (y22 : Bool) : Option (Int) :=
 (if y22 = true then
 some (w8 (y0 + 32)) else
 (if y0 = 126 then
 some 94 else
 some y0))
theorem J2_snd   {y0 : Int} {y22 : Bool} {S : HS} {p : Int} {Gb Gc Gd Ge Gf Gg Gh Gi Gj Gk Gl Gm Gn Go Gp Gq Gr Gs Gt Gu Gv Gx Gy Gz Ka Kb Kc : HV} (h : J2  y0 y22 = some p) : HRun Tryz.prog base W0 β0 38 none [.inRegion r11 [10],.code c12,.inBlock 0,.code c23] ⟨[(.int .u8 y0),Gb,Gc,Gd,Ge,Gf,Gg,Gh,Gi,Gj,Gk,Gl,Gm,Gn,Go,Gp,Gq,Gr,Gs,Gt,Gu,Gv,(.bool y22),Gx,Gy,Gz,Ka,Kb,Kc],[]⟩ S (fun v S1 => v = (.int .u8 p) ∧ S1 = S) := by
 unfold J2 at h
 refine qS 12 rfl (oA · rfl) (rE ?_)
 try dsimp only [w0,w1,w2,w3]
 rcases ifc h with ⟨hc5,h⟩ | ⟨hc5,h⟩
 ·refine q_cond_t rfl (.tmp rfl) hc5 (qQ rfl (qR rfl rfl (qS 23 rfl (oM · rfl) (qS 24 rfl (oC · rfl rfl) (qS 2 rfl (oA · rfl) (rE ?_))))))
  try dsimp only [w0,w1,w2,w3]
  cases h
  exact q_ret rfl at_.at_ rfl (res1 rfl rfl) ⟨rfl,rfl⟩
 ·refine q_cond_f rfl (.tmp rfl) (bfalse hc5) (qQ rfl (qR rfl rfl (qS 26 rfl (oM · rfl) (qS 27 rfl (oC · rfl rfl) (qS 25 rfl (oA · rfl) (rE ?_))))))
  try dsimp only [w0,w1,w2,w3]
  rcases ifc h with ⟨hc6,h⟩ | ⟨hc6,h⟩
  ·refine q_cond_t rfl (.tmp rfl) (decide_eq_true hc6) (qQ rfl (qR rfl rfl (qS 2 rfl (ok_assign · (.int _ _)) (rE ?_))))
   try dsimp only [w0,w1,w2,w3]
   cases h
   exact q_ret rfl at_.at_ rfl (res1 rfl rfl) ⟨rfl,rfl⟩
  ·refine q_cond_f rfl (.tmp rfl) (decide_eq_false hc6) (q_skipc rfl (hr_inBlock (qQ rfl (qR rfl rfl (qS 28 rfl (oM · rfl) (qS 2 rfl (oA · rfl) (rE ?_)))))))
   try dsimp only [w0,w1,w2,w3]
   cases h
   exact q_ret rfl at_.at_ rfl (res1 rfl rfl) ⟨rfl,rfl⟩
def J1  (y0 : Int) (y18 : Bool) : Option (Int) :=
 (if y18 = true then
 J2 y0 true else
 J2 y0 (decide (y0 = 92)))
theorem J1_snd   {y0 : Int} {y18 : Bool} {S : HS} {p : Int} {Gb Gc Gd Ge Gf Gg Gh Gi Gj Gk Gl Gm Gn Go Gp Gq Gr Gt Gu Gv Gw Gx Gy Gz Ka Kb Kc : HV} (h : J1  y0 y18 = some p) : HRun Tryz.prog base W0 β0 38 none [.inRegion r11 [6,7,8,9,10],.code c12,.inBlock 0,.code c23] ⟨[(.int .u8 y0),Gb,Gc,Gd,Ge,Gf,Gg,Gh,Gi,Gj,Gk,Gl,Gm,Gn,Go,Gp,Gq,Gr,(.bool y18),Gt,Gu,Gv,Gw,Gx,Gy,Gz,Ka,Kb,Kc],[]⟩ S (fun v S1 => v = (.int .u8 p) ∧ S1 = S) := by
 unfold J1 at h
 refine qS 19 rfl (oM · rfl) ?_
 rcases ifc h with ⟨hc4,h⟩ | ⟨hc4,h⟩
 ·refine q_skip (dst := some 20) (t := 19) rfl rfl rfl hc4 ?_
  try dsimp only [w0,w1,w2,w3]
  refine q_skip (dst := some 21) (t := 19) rfl rfl rfl hc4 (qS 22 rfl (ok_pick_tt · (.tmp rfl) hc4 (.bool _)) ?_)
  try dsimp only [w0,w1,w2,w3]
  exact J2_snd  h
 ·refine qG 19 20 rfl (bfalse hc4) (oM · rfl) ?_
  try dsimp only [w0,w1,w2,w3]
  refine qG 19 21 rfl (bfalse hc4) (oC · rfl rfl) (qS 22 rfl (ok_pick_ff · (.tmp rfl) (bfalse hc4) (.tmp rfl)) ?_)
  try dsimp only [w0,w1,w2,w3]
  exact J2_snd  h
def J0  (y0 : Int) (y9 : Bool) : Option (Int) :=
 (if y9 = true then
 some (w8 (y0 + 32)) else
 (if y0 = 91 then
 J1 y0 true else
 J1 y0 (decide (y0 = 93))))
theorem J0_snd   {y0 : Int} {y9 : Bool} {S : HS} {p : Int} {Gb Gc Gd Ge Gf Gg Gh Gi Gk Gl Gm Gn Go Gp Gq Gr Gs Gt Gu Gv Gw Gx Gy Gz Ka Kb Kc : HV} (h : J0  y0 y9 = some p) : HRun Tryz.prog base W0 β0 38 none [.inRegion r5 [6],.code c6,.inBlock 0,.code c23] ⟨[(.int .u8 y0),Gb,Gc,Gd,Ge,Gf,Gg,Gh,Gi,(.bool y9),Gk,Gl,Gm,Gn,Go,Gp,Gq,Gr,Gs,Gt,Gu,Gv,Gw,Gx,Gy,Gz,Ka,Kb,Kc],[]⟩ S (fun v S1 => v = (.int .u8 p) ∧ S1 = S) := by
 unfold J0 at h
 refine qS 3 rfl (oA · rfl) (rE ?_)
 try dsimp only [w0,w1,w2,w3]
 rcases ifc h with ⟨hc2,h⟩ | ⟨hc2,h⟩
 ·refine q_cond_t rfl (.tmp rfl) hc2 (qQ rfl (qR rfl rfl (qS 10 rfl (oM · rfl) (qS 11 rfl (oC · rfl rfl) (qS 2 rfl (oA · rfl) (rE ?_))))))
  try dsimp only [w0,w1,w2,w3]
  cases h
  exact q_ret rfl at_.at_ rfl (res1 rfl rfl) ⟨rfl,rfl⟩
 ·refine q_cond_f rfl (.tmp rfl) (bfalse hc2) (qQ rfl (qR rfl rfl (qS 13 rfl (oM · rfl) (qS 14 rfl (oC · rfl rfl) (qS 15 rfl (oM · rfl) ?_)))))
  rcases ifc h with ⟨hc3,h⟩ | ⟨hc3,h⟩
  ·refine q_skip (dst := some 16) (t := 15) rfl rfl rfl (decide_eq_true hc3) ?_
   try dsimp only [w0,w1,w2,w3]
   refine q_skip (dst := some 17) (t := 15) rfl rfl rfl (decide_eq_true hc3) (qS 18 rfl (ok_pick_tt · (.tmp rfl) (decide_eq_true hc3) (.bool _)) ?_)
   try dsimp only [w0,w1,w2,w3]
   exact J1_snd  h
  ·refine qG 15 16 rfl (decide_eq_false hc3) (oM · rfl) ?_
   try dsimp only [w0,w1,w2,w3]
   refine qG 15 17 rfl (decide_eq_false hc3) (oC · rfl rfl) (qS 18 rfl (ok_pick_ff · (.tmp rfl) (decide_eq_false hc3) (.tmp rfl)) ?_)
   try dsimp only [w0,w1,w2,w3]
   exact J1_snd  h
def f (x0 : Int) : Option (Int) :=
 (if x0 ≥ 65 then
 J0 x0 (decide (x0 ≤ 90)) else
 J0 x0 false)
theorem snd {x0 : Int} {S : HS}  {p : Int} (h : f x0 = some p) : HCall Tryz.prog base W0 β0 38 [(.int .u8 x0)] S (fun v S1 => v = (.int .u8 p) ∧ S1 = S) := by
 unfold f at h
 refine HCall.of_run at_.at_ body ?_
 show HRun Tryz.prog base W0 β0 38 none [.code c0] ⟨[(.int .u8 x0),τ,τ,τ,τ,τ,τ,τ,τ,τ,τ,τ,τ,τ,τ,τ,τ,τ,τ,τ,τ,τ,τ,τ,τ,τ,τ,τ,τ],[]⟩ S _
 refine qQ rfl (qR rfl rfl (qS 2 rfl (ok_assign · (.int _ _)) (rE ?_)))
 try dsimp only [w0,w1,w2,w3]
 refine qQ rfl (q_block rfl (qQ rfl (qR rfl rfl (qS 4 rfl (oM · rfl) (qS 5 rfl (oC · rfl rfl) (qS 6 rfl (oM · rfl) ?_))))))
 rcases ifc h with ⟨hc1,h⟩ | ⟨hc1,h⟩
 ·refine qG 6 7 rfl (decide_eq_true hc1) (oM · rfl) ?_
  try dsimp only [w0,w1,w2,w3]
  refine qG 6 8 rfl (decide_eq_true hc1) (oC · rfl rfl) (qS 9 rfl (ok_pick_tt · (.tmp rfl) (decide_eq_true hc1) (.tmp rfl)) ?_)
  try dsimp only [w0,w1,w2,w3]
  exact J0_snd  h
 ·refine q_skip (dst := some 7) (t := 6) rfl rfl rfl (decide_eq_false hc1) ?_
  try dsimp only [w0,w1,w2,w3]
  refine q_skip (dst := some 8) (t := 6) rfl rfl rfl (decide_eq_false hc1) (qS 9 rfl (ok_pick_ff · (.tmp rfl) (decide_eq_false hc1) (.bool _)) ?_)
  try dsimp only [w0,w1,w2,w3]
  exact J0_snd  h
end
end fold_Byte
namespace fold_Text
theorem at_ : FnAt Tryz.prog 25 Tryz.f25 := ⟨Tryz.func25,by kernel_rfl⟩
noncomputable def d0 := (Tryz.f25.body).getD .skip
noncomputable def r1 := kR (kA d0)
noncomputable def r3 := kR (kA (kB d0))
noncomputable def d5 := kA (kB (kB d0))
noncomputable def r6 := kR (kA d5)
noncomputable def d9 := kA (kA (kB d5))
noncomputable def r10 := kR (kA d9)
noncomputable def r18 := kR (kA (kA (kA (kB (kB d9)))))
noncomputable def r19 := kR (kB (kA (kA (kB (kB d9)))))
noncomputable def r20 := kR (kB (kB (kB d9)))
noncomputable def r22 := kR (kA (kB (kB (kB d0))))
noncomputable def c21 : Code := .seq (.region 7 r22 false) .ret
noncomputable def c9 : Code := .seq (.region 3 r10 false) (.seq (.cond (.tmp 11) .skip (.exit 0)) (.seq (.block 1 (.seq (.region 4 r18 false) (.region 5 r19 false))) (.region 6 r20 false)))
noncomputable def c0 : Code := .seq (.region 0 r1 false) (.seq (.region 1 r3 false) (.seq (.seq (.region 2 r6 false) (.block 0 (.loop c9))) c21))
theorem body : Tryz.f25.body = some c0 := by kernel_rfl
section
variable {base : Nat} {W0 : World} {β0 : Bt}
def L0 (k : Nat) : Nat → (List UInt8) → Sl → Int → Int → HS → Option (((List UInt8)) × HS)
 | 0,_,_,_,_,_ => none
 | n + 1,y0,y3,y9,y10,S =>
  (if y10 < y9 then
  (Option.bind (sat y0 y10) fun p3 =>
  (Option.bind (fold_Byte.f (UInt8.toNat p3 : Int)) fun p4 =>
  (letv (HS.lit S [[(.int .u8 p4)]] 1) fun p5 =>
  (Option.bind (HS.rows (p5.2) (p5.1) 1) fun p6 =>
  (Option.bind (HS.app (p5.2) y3 p6 1) fun p7 =>
  (L0 k n) y0 (p7.1) y9 (w64 (y10 + 1)) (p7.2)))))) else
  (Option.bind (HS.text S y3) fun p8 =>
  some (p8,S)))
theorem L0_snd {k : Nat}  : ∀ {n : Nat} ⦃y0 : (List UInt8)⦄ ⦃y3 : Sl⦄ ⦃y9 : Int⦄ ⦃y10 : Int⦄ ⦃S : HS⦄ ⦃p : ((List UInt8)) × HS⦄ ⦃Gb Gc Ge Gf Gg Gh Gi Gl Gm Gn Go Gp Gq Gr Gs Gt Gu Gv Gw : HV⦄,L0 k n y0 y3 y9 y10 S = some p → HRun Tryz.prog base W0 β0 25 none [.inLoop c9,.inBlock 0,.code c21] ⟨[(.str y0),Gb,Gc,(Sl.hv y3),Ge,Gf,Gg,Gh,Gi,(.int .i64 y9),(.int .i64 y10),Gl,Gm,Gn,Go,Gp,Gq,Gr,Gs,Gt,Gu,Gv,Gw],[]⟩ S (fun v S1 => v = (.str p.1) ∧ S1 = p.2) := by
 intro n
 induction n with
 | zero => intro _ _ _ _ _ _ _ _ _ _ _ _ _ _ _ _ _ _ _ _ _ _ _ _ _ h; cases h
 | succ n ih =>
  intro y0 y3 y9 y10 S p Gb Gc Ge Gf Gg Gh Gi Gl Gm Gn Go Gp Gq Gr Gs Gt Gu Gv Gw h
  simp only [L0] at h
  refine hr_inLoop (qQ rfl (qR rfl rfl (qS 11 rfl (oB · rfl rfl rfl) (rE ?_))))
  try dsimp only [w0,w1,w2,w3]
  refine qQ rfl ?_
  rcases ifc h with ⟨hc2,h⟩ | ⟨hc2,h⟩
  ·refine q_cond_t rfl (.tmp rfl) (decide_eq_true hc2) (q_skipc rfl (qQ rfl (q_block rfl (qQ rfl (qR rfl rfl (qS 12 rfl (oM · rfl) (qS 4 rfl (oA · rfl) (rE ?_))))))))
   try dsimp only [w0,w1,w2,w3]
   obtain ⟨p3,hp3,h⟩ := bindo h
   refine qR rfl rfl (qS 13 rfl (oM · rfl) (qS 14 rfl (oM · rfl) (qS 15 rfl (oM · rfl) (qS 16 rfl (ok_index_s · tu9 (.tmp rfl) (.tmp rfl) hp3) ?_))))
   try dsimp only [w0,w1,w2,w3]
   obtain ⟨p4,hp4,h⟩ := bindo h
   refine q_call (dst := some 17) rfl (.func _) (.cons (.tmp rfl) Evs.nil) (HInv.static fold_Byte.at_ fold_Byte.body (fold_Byte.snd  hp4)) ?_
   rintro _ _ ⟨rfl,rfl⟩
   obtain ⟨p5,hp5,h⟩ := leto h
   obtain ⟨p6,hp6,h⟩ := bindo h
   obtain ⟨p7,hp7,h⟩ := bindo h
   refine qS 18 rfl (ok_buildSlice_s (xs := [(.tmp 17)]) el82 · rfl rfl (by decide) (.cons (.tmp rfl) Evs.nil) rfl rfl hp5) (qS 19 rfl (ok_append (s := y3) (s1 := (p5.1)) el82 · rfl rfl ⟨_,tu82⟩ (.tmp rfl) (.tmp rfl) hp6 hp7) (qS 3 rfl (oA · rfl) (rE ?_)))
   try dsimp only [w0,w1,w2,w3]
   refine hr_inBlock (qR rfl rfl (qS 20 rfl (oC · rfl rfl) (qS 10 rfl (oM · rfl) (rE ?_))))
   try dsimp only [w0,w1,w2,w3]
   try dsimp only [w0,w1,w2,w3]
   exact ih h
  ·obtain ⟨p8,hp8,h⟩ := bindo h
   refine q_cond_f rfl (.tmp rfl) (decide_eq_false hc2) (q_exit rfl rfl (qQ rfl (qR rfl rfl (qS 21 rfl (oM · rfl) (qS 22 rfl (ok_str_of_bytes (s := y3) · tu82 tu5 tu9 (.tmp rfl) hp8) (qS 2 rfl (oA · rfl) (rE ?_)))))))
   try dsimp only [w0,w1,w2,w3]
   cases h
   exact q_ret rfl at_.at_ rfl (res1 rfl rfl) ⟨rfl,rfl⟩
def f (k : Nat) (x0 : (List UInt8)) (S : HS) : Option (((List UInt8)) × HS) :=
 (Option.bind (HS.make S 0 (List.length x0 : Int) [(.int .u8 0)]) fun p1 =>
 L0 k k x0 (p1.1) (List.length x0 : Int) 0 (p1.2))
theorem snd {k : Nat} {x0 : (List UInt8)} {S : HS}  {p : ((List UInt8)) × HS} (h : f k x0 S = some p) : HCall Tryz.prog base W0 β0 25 [(.str x0)] S (fun v S1 => v = (.str p.1) ∧ S1 = p.2) := by
 unfold f at h
 refine HCall.of_run at_.at_ body ?_
 show HRun Tryz.prog base W0 β0 25 none [.code c0] ⟨[(.str x0),τ,τ,τ,τ,τ,τ,τ,τ,τ,τ,τ,τ,τ,τ,τ,τ,τ,τ,τ,τ,τ,τ],[]⟩ S _
 refine qQ rfl (qR rfl rfl (qS 2 rfl (ok_assign · (.str _)) (rE ?_)))
 try dsimp only [w0,w1,w2,w3]
 obtain ⟨p1,hp1,h⟩ := bindo h
 refine qQ rfl (qR rfl rfl (qS 5 rfl (oM · rfl) (qS 6 rfl (ok_len_str · rfl tu9 (.tmp rfl)) (qS 7 rfl (ok_make el82 · (.int _ _) (.tmp rfl) hp1) (qS 3 rfl (oA · rfl) (rE ?_))))))
 try dsimp only [w0,w1,w2,w3]
 refine qQ rfl (qQ rfl (qR rfl rfl (qS 8 rfl (oM · rfl) (qS 9 rfl (ok_len_str · rfl tu9 (.tmp rfl)) (qS 10 rfl (ok_move · (.int _ _)) (rE ?_))))))
 try dsimp only [w0,w1,w2,w3]
 refine q_block rfl (q_loop rfl ?_)
 try dsimp only [w0,w1,w2,w3]
 exact L0_snd  h
end
end fold_Text
namespace cmp_isNaN_string
theorem at_ : FnAt Tryz.prog 101 Tryz.f101 := ⟨Tryz.func101,by kernel_rfl⟩
noncomputable def d0 := (Tryz.f101.body).getD .skip
noncomputable def r1 := kR (kA d0)
noncomputable def r3 := kR (kA (kB d0))
noncomputable def c0 : Code := .seq (.region 0 r1 false) (.seq (.region 1 r3 false) .ret)
theorem body : Tryz.f101.body = some c0 := by kernel_rfl
section
variable {base : Nat} {W0 : World} {β0 : Bt}
def f (x0 : (List UInt8)) : Option (Bool) :=
 some (!decide (x0 = x0))
theorem snd {x0 : (List UInt8)} {S : HS}  {p : Bool} (h : f x0 = some p) : HCall Tryz.prog base W0 β0 101 [(.str x0)] S (fun v S1 => v = (.bool p) ∧ S1 = S) := by
 unfold f at h
 refine HCall.of_run at_.at_ body ?_
 show HRun Tryz.prog base W0 β0 101 none [.code c0] ⟨[(.str x0),τ,τ,τ,τ,τ],[]⟩ S _
 refine qQ rfl (qR rfl rfl (qS 2 rfl (ok_assign · (.bool _)) (rE ?_)))
 try dsimp only [w0,w1,w2,w3]
 refine qQ rfl (qR rfl rfl (qS 3 rfl (oM · rfl) (qS 4 rfl (oM · rfl) (qS 5 rfl (ok_sbin · (.tmp rfl) (.tmp rfl) rfl) (qS 2 rfl (oA · rfl) (rE ?_))))))
 try dsimp only [w0,w1,w2,w3]
 cases h
 exact q_ret rfl at_.at_ rfl (res1 rfl rfl) ⟨rfl,rfl⟩
end
end cmp_isNaN_string
namespace cmp_Less_string
theorem at_ : FnAt Tryz.prog 82 Tryz.f82 := ⟨Tryz.func82,by kernel_rfl⟩
noncomputable def d0 := (Tryz.f82.body).getD .skip
noncomputable def r1 := kR (kA d0)
noncomputable def r3 := kR (kA (kB d0))
noncomputable def c4 : Code := .ret
noncomputable def c0 : Code := .seq (.region 0 r1 false) (.seq (.region 1 r3 false) c4)
theorem body : Tryz.f82.body = some c0 := by kernel_rfl
section
variable {base : Nat} {W0 : World} {β0 : Bt}
def J1  (y16 : Bool) : Option (Bool) :=
 some y16
theorem J1_snd   {y16 : Bool} {S : HS} {p : Bool} {Ga Gb Gc Gd Ge Gf Gg Gh Gi Gj Gk Gl Gm Gn Go Gp : HV} (h : J1  y16 = some p) : HRun Tryz.prog base W0 β0 82 none [.inRegion r3 [12],.code c4] ⟨[Ga,Gb,Gc,Gd,Ge,Gf,Gg,Gh,Gi,Gj,Gk,Gl,Gm,Gn,Go,Gp,(.bool y16)],[]⟩ S (fun v S1 => v = (.bool p) ∧ S1 = S) := by
 unfold J1 at h
 refine qS 4 rfl (oA · rfl) (rE ?_)
 try dsimp only [w0,w1,w2,w3]
 cases h
 exact q_ret rfl at_.at_ rfl (res1 rfl rfl) ⟨rfl,rfl⟩
def J0  (y0 : (List UInt8)) (y1 : (List UInt8)) (y11 : Bool) : Option (Bool) :=
 (if y11 = true then
 J1 true else
 J1 (slt y0 y1))
theorem J0_snd   {y0 : (List UInt8)} {y1 : (List UInt8)} {y11 : Bool} {S : HS} {p : Bool} {Gc Gd Ge Gf Gg Gh Gi Gj Gk Gm Gn Go Gp Gq : HV} (h : J0  y0 y1 y11 = some p) : HRun Tryz.prog base W0 β0 82 none [.inRegion r3 [7,8,9,10,11,12],.code c4] ⟨[(.str y0),(.str y1),Gc,Gd,Ge,Gf,Gg,Gh,Gi,Gj,Gk,(.bool y11),Gm,Gn,Go,Gp,Gq],[]⟩ S (fun v S1 => v = (.bool p) ∧ S1 = S) := by
 unfold J0 at h
 refine qS 12 rfl (oM · rfl) ?_
 try dsimp only [w0,w1,w2,w3]
 rcases ifc h with ⟨hc4,h⟩ | ⟨hc4,h⟩
 ·refine q_skip (dst := some 13) (t := 12) rfl rfl rfl hc4 (q_skip (dst := some 14) (t := 12) rfl rfl rfl hc4 (q_skip (dst := some 15) (t := 12) rfl rfl rfl hc4 (qS 16 rfl (ok_pick_tt · (.tmp rfl) hc4 (.bool _)) ?_)))
  try dsimp only [w0,w1,w2,w3]
  try dsimp only [w0,w1,w2,w3]
  exact J1_snd  h
 ·refine qG 12 13 rfl (bfalse hc4) (oM · rfl) (qG 12 14 rfl (bfalse hc4) (oM · rfl) (qG 12 15 rfl (bfalse hc4) (ok_sbin · (.tmp rfl) (.tmp rfl) rfl) (qS 16 rfl (ok_pick_ff · (.tmp rfl) (bfalse hc4) (.tmp rfl)) ?_)))
  try dsimp only [w0,w1,w2,w3]
  try dsimp only [w0,w1,w2,w3]
  exact J1_snd  h
def f (x0 : (List UInt8)) (x1 : (List UInt8)) : Option (Bool) :=
 (Option.bind (cmp_isNaN_string.f x0) fun p1 =>
 (if p1 = true then
 (Option.bind (cmp_isNaN_string.f x1) fun p3 =>
 J0 x0 x1 (!p3)) else
 J0 x0 x1 false))
theorem snd {x0 : (List UInt8)} {x1 : (List UInt8)} {S : HS}  {p : Bool} (h : f x0 x1 = some p) : HCall Tryz.prog base W0 β0 82 [(.str x0),(.str x1)] S (fun v S1 => v = (.bool p) ∧ S1 = S) := by
 unfold f at h
 refine HCall.of_run at_.at_ body ?_
 show HRun Tryz.prog base W0 β0 82 none [.code c0] ⟨[(.str x0),(.str x1),τ,τ,τ,τ,τ,τ,τ,τ,τ,τ,τ,τ,τ,τ,τ],[]⟩ S _
 refine qQ rfl (qR rfl rfl (qS 4 rfl (ok_assign · (.bool _)) (rE ?_)))
 try dsimp only [w0,w1,w2,w3]
 obtain ⟨p1,hp1,h⟩ := bindo h
 refine qQ rfl (qR rfl rfl (qS 5 rfl (oM · rfl) (q_call (dst := some 6) rfl (.func _) (.cons (.tmp rfl) Evs.nil) (HInv.static cmp_isNaN_string.at_ cmp_isNaN_string.body (cmp_isNaN_string.snd  hp1)) ?_)))
 rintro _ _ ⟨rfl,rfl⟩
 refine qS 7 rfl (oM · rfl) ?_
 rcases ifc h with ⟨hc2,h⟩ | ⟨hc2,h⟩
 ·refine qG 7 8 rfl hc2 (oM · rfl) ?_
  try dsimp only [w0,w1,w2,w3]
  obtain ⟨p3,hp3,h⟩ := bindo h
  refine q_call_g (t := 7) (dst := some 9) rfl rfl rfl hc2 (.func _) (.cons (.tmp rfl) Evs.nil) (HInv.static cmp_isNaN_string.at_ cmp_isNaN_string.body (cmp_isNaN_string.snd  hp3)) ?_
  rintro _ _ ⟨rfl,rfl⟩
  refine qG 7 10 rfl hc2 (ok_not · (.tmp rfl)) (qS 11 rfl (ok_pick_tt · (.tmp rfl) hc2 (.tmp rfl)) ?_)
  try dsimp only [w0,w1,w2,w3]
  exact J0_snd  h
 ·refine q_skip (dst := some 8) (t := 7) rfl rfl rfl (bfalse hc2) ?_
  try dsimp only [w0,w1,w2,w3]
  refine q_skip (dst := some 9) (t := 7) rfl rfl rfl (bfalse hc2) (q_skip (dst := some 10) (t := 7) rfl rfl rfl (bfalse hc2) (qS 11 rfl (ok_pick_ff · (.tmp rfl) (bfalse hc2) (.bool _)) ?_))
  try dsimp only [w0,w1,w2,w3]
  exact J0_snd  h
end
end cmp_Less_string
namespace slices_isNaN_string
theorem at_ : FnAt Tryz.prog 83 Tryz.f83 := ⟨Tryz.func83,by kernel_rfl⟩
noncomputable def d0 := (Tryz.f83.body).getD .skip
noncomputable def r1 := kR (kA d0)
noncomputable def r3 := kR (kA (kB d0))
noncomputable def c0 : Code := .seq (.region 0 r1 false) (.seq (.region 1 r3 false) .ret)
theorem body : Tryz.f83.body = some c0 := by kernel_rfl
section
variable {base : Nat} {W0 : World} {β0 : Bt}
def f (x0 : (List UInt8)) : Option (Bool) :=
 some (!decide (x0 = x0))
theorem snd {x0 : (List UInt8)} {S : HS}  {p : Bool} (h : f x0 = some p) : HCall Tryz.prog base W0 β0 83 [(.str x0)] S (fun v S1 => v = (.bool p) ∧ S1 = S) := by
 unfold f at h
 refine HCall.of_run at_.at_ body ?_
 show HRun Tryz.prog base W0 β0 83 none [.code c0] ⟨[(.str x0),τ,τ,τ,τ,τ],[]⟩ S _
 refine qQ rfl (qR rfl rfl (qS 2 rfl (ok_assign · (.bool _)) (rE ?_)))
 try dsimp only [w0,w1,w2,w3]
 refine qQ rfl (qR rfl rfl (qS 3 rfl (oM · rfl) (qS 4 rfl (oM · rfl) (qS 5 rfl (ok_sbin · (.tmp rfl) (.tmp rfl) rfl) (qS 2 rfl (oA · rfl) (rE ?_))))))
 try dsimp only [w0,w1,w2,w3]
 cases h
 exact q_ret rfl at_.at_ rfl (res1 rfl rfl) ⟨rfl,rfl⟩
end
end slices_isNaN_string
namespace slices_BinarySearch_string_string
theorem at_ : FnAt Tryz.prog 66 Tryz.f66 := ⟨Tryz.func66,by kernel_rfl⟩
noncomputable def d0 := (Tryz.f66.body).getD .skip
noncomputable def r1 := kR (kA d0)
noncomputable def r3 := kR (kA (kB d0))
noncomputable def r5 := kR (kA (kB (kB d0)))
noncomputable def d6 := kB (kB (kB d0))
noncomputable def d9 := kA (kA (kA d6))
noncomputable def r11 := kR (kA (kA d9))
noncomputable def r17 := kR (kA (kA (kB d9)))
noncomputable def r19 := kR (kA (kB (kA (kB d9))))
noncomputable def r21 := kR (kA (kB (kB (kA (kB d9)))))
noncomputable def r22 := kR (kB (kB (kB (kA (kB d9)))))
noncomputable def r24 := kR (kA (kB d6))
noncomputable def c25 : Code := .ret
noncomputable def c23 : Code := .seq (.region 8 r24 false) c25
noncomputable def c9 : Code := .seq (.seq (.region 3 r11 false) (.cond (.tmp 15) .skip (.exit 0))) (.block 1 (.seq (.region 4 r17 false) (.seq (.region 5 r19 false) (.cond (.tmp 27) (.region 6 r21 false) (.region 7 r22 false)))))
noncomputable def c0 : Code := .seq (.region 0 r1 false) (.seq (.region 1 r3 false) (.seq (.region 2 r5 false) (.seq (.block 0 (.loop c9)) c23)))
theorem body : Tryz.f66.body = some c0 := by kernel_rfl
section
variable {base : Nat} {W0 : World} {β0 : Bt}
def J2 (k : Nat) (y31 : Int) (y53 : Bool) (S : HS) : Option ((Int × Bool) × HS) :=
 some ((y31,y53),S)
theorem J2_snd {k : Nat}  {y31 : Int} {y53 : Bool} {S : HS} {p : (Int × Bool) × HS} {Ga Gb Gc Gd Ge Gf Gg Gh Gi Gj Gk Gl Gm Gn Go Gp Gq Gr Gs Gt Gu Gv Gw Gx Gy Gz Ka Kb Kc Kd Ke Kg Kh Ki Kj Kk Kl Km Kn Ko Kp Kq Kr Ks Kt Ku Kv Kw Kx Ky Kz Ma : HV} (h : J2 k y31 y53 S = some p) : HRun Tryz.prog base W0 β0 66 none [.inRegion r24 [23,24],.code c25] ⟨[Ga,Gb,Gc,Gd,Ge,Gf,Gg,Gh,Gi,Gj,Gk,Gl,Gm,Gn,Go,Gp,Gq,Gr,Gs,Gt,Gu,Gv,Gw,Gx,Gy,Gz,Ka,Kb,Kc,Kd,Ke,(.int .i64 y31),Kg,Kh,Ki,Kj,Kk,Kl,Km,Kn,Ko,Kp,Kq,Kr,Ks,Kt,Ku,Kv,Kw,Kx,Ky,Kz,Ma,(.bool y53)],[]⟩ S (fun v S1 => v = (.tup [(.int .i64 p.1.1),(.bool p.1.2)]) ∧ S1 = p.2) := by
 unfold J2 at h
 refine qS 4 rfl (oA · rfl) ?_
 try dsimp only [w0,w1,w2,w3]
 refine qS 5 rfl (oA · rfl) (rE ?_)
 try dsimp only [w0,w1,w2,w3]
 cases h
 exact q_ret rfl at_.at_ rfl (res2 rfl rfl rfl) ⟨rfl,rfl⟩
def J1 (k : Nat) (y31 : Int) (y35 : Bool) (y52 : Bool) (S : HS) : Option ((Int × Bool) × HS) :=
 (if y35 = true then
 J2 k y31 y52 S else
 J2 k y31 false S)
theorem J1_snd {k : Nat}  {y31 : Int} {y35 : Bool} {y52 : Bool} {S : HS} {p : (Int × Bool) × HS} {Ga Gb Gc Gd Ge Gf Gg Gh Gi Gj Gk Gl Gm Gn Go Gp Gq Gr Gs Gt Gu Gv Gw Gx Gy Gz Ka Kb Kc Kd Ke Kg Kh Ki Kk Kl Km Kn Ko Kp Kq Kr Ks Kt Ku Kv Kw Kx Ky Kz Mb : HV} (h : J1 k y31 y35 y52 S = some p) : HRun Tryz.prog base W0 β0 66 none [.inRegion r24 [22,23,24],.code c25] ⟨[Ga,Gb,Gc,Gd,Ge,Gf,Gg,Gh,Gi,Gj,Gk,Gl,Gm,Gn,Go,Gp,Gq,Gr,Gs,Gt,Gu,Gv,Gw,Gx,Gy,Gz,Ka,Kb,Kc,Kd,Ke,(.int .i64 y31),Kg,Kh,Ki,(.bool y35),Kk,Kl,Km,Kn,Ko,Kp,Kq,Kr,Ks,Kt,Ku,Kv,Kw,Kx,Ky,Kz,(.bool y52),Mb],[]⟩ S (fun v S1 => v = (.tup [(.int .i64 p.1.1),(.bool p.1.2)]) ∧ S1 = p.2) := by
 unfold J1 at h
 rcases ifc h with ⟨hc10,h⟩ | ⟨hc10,h⟩
 ·refine qS 53 rfl (ok_pick_tt · (.tmp rfl) hc10 (.tmp rfl)) ?_
  try dsimp only [w0,w1,w2,w3]
  exact J2_snd  h
 ·refine qS 53 rfl (ok_pick_ff · (.tmp rfl) (bfalse hc10) (.bool _)) ?_
  try dsimp only [w0,w1,w2,w3]
  exact J2_snd  h
def J3 (k : Nat) (y31 : Int) (y35 : Bool) (y42 : Bool) (y51 : Bool) (S : HS) : Option ((Int × Bool) × HS) :=
 (if y35 = true then
 (if y42 = true then
 J1 k y31 y35 true S else
 J1 k y31 y35 y51 S) else
 J2 k y31 false S)
theorem J3_snd {k : Nat}  {y31 : Int} {y35 : Bool} {y42 : Bool} {y51 : Bool} {S : HS} {p : (Int × Bool) × HS} {Ga Gb Gc Gd Ge Gf Gg Gh Gi Gj Gk Gl Gm Gn Go Gp Gq Gr Gs Gt Gu Gv Gw Gx Gy Gz Ka Kb Kc Kd Ke Kg Kh Ki Kk Kl Km Kn Ko Kp Kr Ks Kt Ku Kv Kw Kx Ky Ma Mb : HV} (h : J3 k y31 y35 y42 y51 S = some p) : HRun Tryz.prog base W0 β0 66 none [.inRegion r24 [21,22,23,24],.code c25] ⟨[Ga,Gb,Gc,Gd,Ge,Gf,Gg,Gh,Gi,Gj,Gk,Gl,Gm,Gn,Go,Gp,Gq,Gr,Gs,Gt,Gu,Gv,Gw,Gx,Gy,Gz,Ka,Kb,Kc,Kd,Ke,(.int .i64 y31),Kg,Kh,Ki,(.bool y35),Kk,Kl,Km,Kn,Ko,Kp,(.bool y42),Kr,Ks,Kt,Ku,Kv,Kw,Kx,Ky,(.bool y51),Ma,Mb],[]⟩ S (fun v S1 => v = (.tup [(.int .i64 p.1.1),(.bool p.1.2)]) ∧ S1 = p.2) := by
 unfold J3 at h
 rcases ifc h with ⟨hc16,h⟩ | ⟨hc16,h⟩
 ·rcases ifc h with ⟨hc17,h⟩ | ⟨hc17,h⟩
  ·refine qG 35 52 rfl hc16 (ok_pick_tt · (.tmp rfl) hc17 (.bool _)) ?_
   try dsimp only [w0,w1,w2,w3]
   exact J1_snd  h
  ·refine qG 35 52 rfl hc16 (ok_pick_ff · (.tmp rfl) (bfalse hc17) (.tmp rfl)) ?_
   try dsimp only [w0,w1,w2,w3]
   exact J1_snd  h
 ·refine q_skip (dst := some 52) (t := 35) rfl rfl rfl (bfalse hc16) (qS 53 rfl (ok_pick_ff · (.tmp rfl) (bfalse hc16) (.bool _)) ?_)
  try dsimp only [w0,w1,w2,w3]
  exact J2_snd  h
def L0 (k : Nat) : Nat → Sl → (List UInt8) → Int → Int → Int → HS → Option ((Int × Bool) × HS)
 | 0,_,_,_,_,_,_ => none
 | n + 1,y0,y1,y6,y7,y8,S =>
  (if y7 < y8 then
  (Option.bind (HS.idx S y0 (w64 (Int.fdiv (IntKind.wrap .u64 (w64 (y7 + y8))) (2 ^ (min (Int.toNat 1) (IntKind.bits .u64))))) 1) fun p2 =>
  (Option.bind (HS.ldS S p2) fun p3 =>
  (Option.bind (cmp_Less_string.f p3 y1) fun p4 =>
  (if p4 = true then
  (L0 k n) y0 y1 y6 (w64 ((w64 (Int.fdiv (IntKind.wrap .u64 (w64 (y7 + y8))) (2 ^ (min (Int.toNat 1) (IntKind.bits .u64))))) + 1)) y8 S else
  (L0 k n) y0 y1 y6 y7 (w64 (Int.fdiv (IntKind.wrap .u64 (w64 (y7 + y8))) (2 ^ (min (Int.toNat 1) (IntKind.bits .u64))))) S)))) else
  (if y7 < y6 then
  (Option.bind (HS.idx S y0 y7 1) fun p7 =>
  (Option.bind (HS.ldS S p7) fun p8 =>
  (if p8 = y1 then
  J1 k y7 (decide (y7 < y6)) true S else
  (Option.bind (HS.idx S y0 y7 1) fun p11 =>
  (Option.bind (HS.ldS S p11) fun p12 =>
  (Option.bind (slices_isNaN_string.f p12) fun p13 =>
  (if p13 = true then
  (Option.bind (slices_isNaN_string.f y1) fun p15 =>
  J3 k y7 (decide (y7 < y6)) (decide (p8 = y1)) p15 S) else
  J3 k y7 (decide (y7 < y6)) (decide (p8 = y1)) false S))))))) else
  J2 k y7 false S))
theorem L0_snd {k : Nat}  : ∀ {n : Nat} ⦃y0 : Sl⦄ ⦃y1 : (List UInt8)⦄ ⦃y6 : Int⦄ ⦃y7 : Int⦄ ⦃y8 : Int⦄ ⦃S : HS⦄ ⦃p : (Int × Bool) × HS⦄ ⦃Gc Gd Ge Gf Gj Gk Gl Gm Gn Go Gp Gq Gr Gs Gt Gu Gv Gw Gx Gy Gz Ka Kb Kc Kd Ke Kf Kg Kh Ki Kj Kk Kl Km Kn Ko Kp Kq Kr Ks Kt Ku Kv Kw Kx Ky Kz Ma Mb : HV⦄,L0 k n y0 y1 y6 y7 y8 S = some p → HRun Tryz.prog base W0 β0 66 none [.inLoop c9,.inBlock 0,.code c23] ⟨[(Sl.hv y0),(.str y1),Gc,Gd,Ge,Gf,(.int .i64 y6),(.int .i64 y7),(.int .i64 y8),Gj,Gk,Gl,Gm,Gn,Go,Gp,Gq,Gr,Gs,Gt,Gu,Gv,Gw,Gx,Gy,Gz,Ka,Kb,Kc,Kd,Ke,Kf,Kg,Kh,Ki,Kj,Kk,Kl,Km,Kn,Ko,Kp,Kq,Kr,Ks,Kt,Ku,Kv,Kw,Kx,Ky,Kz,Ma,Mb],[]⟩ S (fun v S1 => v = (.tup [(.int .i64 p.1.1),(.bool p.1.2)]) ∧ S1 = p.2) := by
 intro n
 induction n with
 | zero => intro _ _ _ _ _ _ _ _ _ _ _ _ _ _ _ _ _ _ _ _ _ _ _ _ _ _ _ _ _ _ _ _ _ _ _ _ _ _ _ _ _ _ _ _ _ _ _ _ _ _ _ _ _ _ _ _ h; cases h
 | succ n ih =>
  intro y0 y1 y6 y7 y8 S p Gc Gd Ge Gf Gj Gk Gl Gm Gn Go Gp Gq Gr Gs Gt Gu Gv Gw Gx Gy Gz Ka Kb Kc Kd Ke Kf Kg Kh Ki Kj Kk Kl Km Kn Ko Kp Kq Kr Ks Kt Ku Kv Kw Kx Ky Kz Ma Mb h
  simp only [L0] at h
  refine hr_inLoop (qQ rfl (qQ rfl (qR rfl rfl (qS 13 rfl (oM · rfl) (qS 14 rfl (oM · rfl) (qS 15 rfl (oB · rfl rfl rfl) (rE ?_)))))))
  try dsimp only [w0,w1,w2,w3]
  rcases ifc h with ⟨hc1,h⟩ | ⟨hc1,h⟩
  ·refine q_cond_t rfl (.tmp rfl) (decide_eq_true hc1) (q_skipc rfl (q_block rfl (qQ rfl (qR rfl rfl (qS 16 rfl (oM · rfl) (qS 17 rfl (oM · rfl) (qS 18 rfl (oB · rfl rfl rfl) (qS 19 rfl (ok_conv_int · tu3 tu120 (.tmp rfl)) ?_))))))))
   try dsimp only [w0,w1,w2,w3]
   refine qS 20 rfl (ok_shr · (.tmp rfl) (.int _ _) (by decide)) (qS 21 rfl (ok_conv_int · tu120 tu3 (.tmp rfl)) (qS 9 rfl (oA · rfl) (rE ?_)))
   try dsimp only [w0,w1,w2,w3]
   obtain ⟨p2,hp2,h⟩ := bindo h
   obtain ⟨p3,hp3,h⟩ := bindo h
   refine qQ rfl (qR rfl rfl (qS 22 rfl (oM · rfl) (qS 23 rfl (oM · rfl) (qS 24 rfl (oX (s := y0) · tu38 sz9 rfl rfl hp2) (qS 25 rfl (oL · sc9 rfl rfl (ldS_out hp3)) ?_)))))
   try dsimp only [w0,w1,w2,w3]
   obtain ⟨p4,hp4,h⟩ := bindo h
   refine qS 26 rfl (oM · rfl) (q_call (dst := some 27) rfl (.func _) (.cons (.tmp rfl) (.cons (.tmp rfl) Evs.nil)) (HInv.static cmp_Less_string.at_ cmp_Less_string.body (cmp_Less_string.snd  hp4)) ?_)
   rintro _ _ ⟨rfl,rfl⟩
   refine rE ?_
   try dsimp only [w0,w1,w2,w3]
   rcases ifc h with ⟨hc5,h⟩ | ⟨hc5,h⟩
   ·refine q_cond_t rfl (.tmp rfl) hc5 (qR rfl rfl (qS 28 rfl (oM · rfl) (qS 29 rfl (oC · rfl rfl) (qS 7 rfl (oA · rfl) (rE ?_)))))
    try dsimp only [w0,w1,w2,w3]
    refine hr_inBlock ?_
    try dsimp only [w0,w1,w2,w3]
    exact ih h
   ·refine q_cond_f rfl (.tmp rfl) (bfalse hc5) (qR rfl rfl (qS 30 rfl (oM · rfl) (qS 8 rfl (oA · rfl) (rE ?_))))
    try dsimp only [w0,w1,w2,w3]
    refine hr_inBlock ?_
    try dsimp only [w0,w1,w2,w3]
    exact ih h
  ·refine q_cond_f rfl (.tmp rfl) (decide_eq_false hc1) (q_exit rfl rfl (qQ rfl (qR rfl rfl (qS 31 rfl (oM · rfl) (qS 32 rfl (oM · rfl) (qS 33 rfl (oM · rfl) (qS 34 rfl (oB · rfl rfl rfl) ?_)))))))
   try dsimp only [w0,w1,w2,w3]
   refine qS 35 rfl (oM · rfl) ?_
   rcases ifc h with ⟨hc6,h⟩ | ⟨hc6,h⟩
   ·obtain ⟨p7,hp7,h⟩ := bindo h
    refine qG 35 36 rfl (decide_eq_true hc6) (oM · rfl) (qG 35 37 rfl (decide_eq_true hc6) (oM · rfl) (qG 35 38 rfl (decide_eq_true hc6) (oX (s := y0) · tu38 sz9 rfl rfl hp7) ?_))
    try dsimp only [w0,w1,w2,w3]
    obtain ⟨p8,hp8,h⟩ := bindo h
    refine qG 35 39 rfl (decide_eq_true hc6) (oL · sc9 rfl rfl (ldS_out hp8)) (qG 35 40 rfl (decide_eq_true hc6) (oM · rfl) (qG 35 41 rfl (decide_eq_true hc6) (ok_sbin · (.tmp rfl) (.tmp rfl) rfl) (qG 35 42 rfl (decide_eq_true hc6) (oM · rfl) ?_)))
    try dsimp only [w0,w1,w2,w3]
    rcases ifc h with ⟨hc9,h⟩ | ⟨hc9,h⟩
    ·refine q_skip (dst := some 43) (t := 42) rfl rfl rfl (decide_eq_true hc9) (q_skip (dst := some 44) (t := 42) rfl rfl rfl (decide_eq_true hc9) (q_skip (dst := some 45) (t := 42) rfl rfl rfl (decide_eq_true hc9) (q_skip (dst := some 46) (t := 42) rfl rfl rfl (decide_eq_true hc9) ?_)))
     try dsimp only [w0,w1,w2,w3]
     refine q_skip (dst := some 47) (t := 42) rfl rfl rfl (decide_eq_true hc9) (q_skip (dst := some 48) (t := 42) rfl rfl rfl (decide_eq_true hc9) (q_skip_u (dst := some 49) (t := 48) rfl rfl rfl (q_skip_u (dst := some 50) (t := 48) rfl rfl rfl ?_)))
     try dsimp only [w0,w1,w2,w3]
     refine q_skip (dst := some 51) (t := 42) rfl rfl rfl (decide_eq_true hc9) (qG 35 52 rfl (decide_eq_true hc6) (ok_pick_tt · (.tmp rfl) (decide_eq_true hc9) (.bool _)) ?_)
     try dsimp only [w0,w1,w2,w3]
     exact J1_snd  h
    ·obtain ⟨p11,hp11,h⟩ := bindo h
     obtain ⟨p12,hp12,h⟩ := bindo h
     refine qG 42 43 rfl (decide_eq_false hc9) (oM · rfl) (qG 42 44 rfl (decide_eq_false hc9) (oM · rfl) (qG 42 45 rfl (decide_eq_false hc9) (oX (s := y0) · tu38 sz9 rfl rfl hp11) (qG 42 46 rfl (decide_eq_false hc9) (oL · sc9 rfl rfl (ldS_out hp12)) ?_)))
     try dsimp only [w0,w1,w2,w3]
     obtain ⟨p13,hp13,h⟩ := bindo h
     refine q_call_g (t := 42) (dst := some 47) rfl rfl rfl (decide_eq_false hc9) (.func _) (.cons (.tmp rfl) Evs.nil) (HInv.static slices_isNaN_string.at_ slices_isNaN_string.body (slices_isNaN_string.snd  hp13)) ?_
     rintro _ _ ⟨rfl,rfl⟩
     refine qG 42 48 rfl (decide_eq_false hc9) (oM · rfl) ?_
     rcases ifc h with ⟨hc14,h⟩ | ⟨hc14,h⟩
     ·obtain ⟨p15,hp15,h⟩ := bindo h
      refine qG 48 49 rfl hc14 (oM · rfl) (q_call_g (t := 48) (dst := some 50) rfl rfl rfl hc14 (.func _) (.cons (.tmp rfl) Evs.nil) (HInv.static slices_isNaN_string.at_ slices_isNaN_string.body (slices_isNaN_string.snd  hp15)) ?_)
      rintro _ _ ⟨rfl,rfl⟩
      try dsimp only [w0,w1,w2,w3]
      refine qG 42 51 rfl (decide_eq_false hc9) (ok_pick_tt · (.tmp rfl) hc14 (.tmp rfl)) ?_
      try dsimp only [w0,w1,w2,w3]
      exact J3_snd  h
     ·refine q_skip (dst := some 49) (t := 48) rfl rfl rfl (bfalse hc14) (q_skip (dst := some 50) (t := 48) rfl rfl rfl (bfalse hc14) ?_)
      try dsimp only [w0,w1,w2,w3]
      refine qG 42 51 rfl (decide_eq_false hc9) (ok_pick_ff · (.tmp rfl) (bfalse hc14) (.bool _)) ?_
      try dsimp only [w0,w1,w2,w3]
      exact J3_snd  h
   ·refine q_skip (dst := some 36) (t := 35) rfl rfl rfl (decide_eq_false hc6) (q_skip (dst := some 37) (t := 35) rfl rfl rfl (decide_eq_false hc6) (q_skip (dst := some 38) (t := 35) rfl rfl rfl (decide_eq_false hc6) ?_))
    try dsimp only [w0,w1,w2,w3]
    refine q_skip (dst := some 39) (t := 35) rfl rfl rfl (decide_eq_false hc6) (q_skip (dst := some 40) (t := 35) rfl rfl rfl (decide_eq_false hc6) (q_skip (dst := some 41) (t := 35) rfl rfl rfl (decide_eq_false hc6) (q_skip (dst := some 42) (t := 35) rfl rfl rfl (decide_eq_false hc6) ?_)))
    try dsimp only [w0,w1,w2,w3]
    refine q_skip_u (dst := some 43) (t := 42) rfl rfl rfl (q_skip_u (dst := some 44) (t := 42) rfl rfl rfl (q_skip_u (dst := some 45) (t := 42) rfl rfl rfl (q_skip_u (dst := some 46) (t := 42) rfl rfl rfl ?_)))
    try dsimp only [w0,w1,w2,w3]
    refine q_skip_u (dst := some 47) (t := 42) rfl rfl rfl (q_skip_u (dst := some 48) (t := 42) rfl rfl rfl (q_skip_u (dst := some 49) (t := 48) rfl rfl rfl (q_skip_u (dst := some 50) (t := 48) rfl rfl rfl ?_)))
    try dsimp only [w0,w1,w2,w3]
    refine q_skip_u (dst := some 51) (t := 42) rfl rfl rfl (q_skip (dst := some 52) (t := 35) rfl rfl rfl (decide_eq_false hc6) (qS 53 rfl (ok_pick_ff · (.tmp rfl) (decide_eq_false hc6) (.bool _)) ?_))
    try dsimp only [w0,w1,w2,w3]
    exact J2_snd  h
def f (k : Nat) (x0 : Sl) (x1 : (List UInt8)) (S : HS) : Option ((Int × Bool) × HS) :=
 L0 k k x0 x1 (Sl.len x0 : Int) 0 (Sl.len x0 : Int) S
theorem snd {k : Nat} {x0 : Sl} {x1 : (List UInt8)} {S : HS}  {p : (Int × Bool) × HS} (h : f k x0 x1 S = some p) : HCall Tryz.prog base W0 β0 66 [(Sl.hv x0),(.str x1)] S (fun v S1 => v = (.tup [(.int .i64 p.1.1),(.bool p.1.2)]) ∧ S1 = p.2) := by
 unfold f at h
 refine HCall.of_run at_.at_ body ?_
 show HRun Tryz.prog base W0 β0 66 none [.code c0] ⟨[(Sl.hv x0),(.str x1),τ,τ,τ,τ,τ,τ,τ,τ,τ,τ,τ,τ,τ,τ,τ,τ,τ,τ,τ,τ,τ,τ,τ,τ,τ,τ,τ,τ,τ,τ,τ,τ,τ,τ,τ,τ,τ,τ,τ,τ,τ,τ,τ,τ,τ,τ,τ,τ,τ,τ,τ,τ],[]⟩ S _
 refine qQ rfl (qR rfl rfl (qS 4 rfl (ok_assign · (.int _ _)) (qS 5 rfl (ok_assign · (.bool _)) (rE ?_))))
 try dsimp only [w0,w1,w2,w3]
 refine qQ rfl (qR rfl rfl (qS 10 rfl (oM · rfl) (qS 11 rfl (ok_len_sl (q := Sl.a x0) (n := Sl.len x0) (z := Sl.cap x0) · rfl tu38 (.tmp rfl)) (qS 6 rfl (oA · rfl) (rE ?_)))))
 try dsimp only [w0,w1,w2,w3]
 refine qQ rfl (qR rfl rfl (qS 12 rfl (oM · rfl) (qS 7 rfl (ok_assign · (.int _ _)) (qS 8 rfl (oA · rfl) (rE ?_)))))
 try dsimp only [w0,w1,w2,w3]
 refine qQ rfl (q_block rfl (q_loop rfl ?_))
 try dsimp only [w0,w1,w2,w3]
 exact L0_snd  h
end
end slices_BinarySearch_string_string
namespace set_Set_string_Has
theorem at_ : FnAt Tryz.prog 48 Tryz.f48 := ⟨Tryz.func48,by kernel_rfl⟩
noncomputable def d0 := (Tryz.f48.body).getD .skip
noncomputable def r1 := kR (kA d0)
noncomputable def r4 := kR (kA (kA (kB d0)))
noncomputable def r7 := kR (kA (kA (kB (kA (kB d0)))))
noncomputable def r11 := kR (kA (kB (kB d0)))
noncomputable def r13 := kR (kA (kB (kB (kB d0))))
noncomputable def c0 : Code := .seq (.region 0 r1 false) (.seq (.seq (.region 1 r4 false) (.cond (.tmp 8) (.seq (.region 2 r7 false) .ret) .skip)) (.seq (.region 3 r11 false) (.seq (.region 4 r13 false) .ret)))
theorem body : Tryz.f48.body = some c0 := by kernel_rfl
section
variable {base : Nat} {W0 : World} {β0 : Bt}
def f (k : Nat) (x0 : (Option HA)) (x1 : (List UInt8)) (S : HS) : Option ((Bool) × HS) :=
 (if (Option.isNone x0) = true then
 some (false,S) else
 (Option.bind (x0) fun p2 =>
 (Option.bind (HS.ldSl S (HA.fld p2 0)) fun p3 =>
 (Option.bind (slices_BinarySearch_string_string.f k p3 x1 S) fun p4 =>
 some (p4.1.2,p4.2)))))
theorem snd {k : Nat} {x0 : (Option HA)} {x1 : (List UInt8)} {S : HS}  {p : (Bool) × HS} (h : f k x0 x1 S = some p) : HCall Tryz.prog base W0 β0 48 [(.ptr x0),(.str x1)] S (fun v S1 => v = (.bool p.1) ∧ S1 = p.2) := by
 unfold f at h
 refine HCall.of_run at_.at_ body ?_
 show HRun Tryz.prog base W0 β0 48 none [.code c0] ⟨[(.ptr x0),(.str x1),τ,τ,τ,τ,τ,τ,τ,τ,τ,τ,τ,τ,τ,τ,τ,τ,τ],[]⟩ S _
 refine qQ rfl (qR rfl rfl (qS 4 rfl (ok_assign · (.bool _)) (rE ?_)))
 try dsimp only [w0,w1,w2,w3]
 refine qQ rfl (qQ rfl (qR rfl rfl (qS 7 rfl (oM · rfl) (qS 8 rfl (ok_nil_ptr · tu87 (.tmp rfl) (.inl ⟨rfl,rfl⟩)) (rE ?_)))))
 try dsimp only [w0,w1,w2,w3]
 rcases ifc h with ⟨hc1,h⟩ | ⟨hc1,h⟩
 ·refine q_cond_t rfl (.tmp rfl) hc1 (qQ rfl (qR rfl rfl (qS 4 rfl (ok_assign · (.bool _)) (rE ?_))))
  try dsimp only [w0,w1,w2,w3]
  cases h
  exact q_ret rfl at_.at_ rfl (res1 rfl rfl) ⟨rfl,rfl⟩
 ·obtain ⟨p2,hp2,h⟩ := bindo h
  obtain ⟨p3,hp3,h⟩ := bindo h
  refine q_cond_f rfl (.tmp rfl) (bfalse hc1) (q_skipc rfl (qQ rfl (qR rfl rfl (qS 10 rfl (oM · rfl) (qS 11 rfl (oN · rfl hp2) (qS 12 rfl (oF · fi103_0 (by decide) rfl rfl) (qS 13 rfl (oL · sc38 rfl rfl (ldSl_out hp3)) ?_)))))))
  try dsimp only [w0,w1,w2,w3]
  obtain ⟨p4,hp4,h⟩ := bindo h
  refine qS 14 rfl (oM · rfl) (q_call (dst := some 15) rfl (.func _) (.cons (.tmp rfl) (.cons (.tmp rfl) Evs.nil)) (HInv.static slices_BinarySearch_string_string.at_ slices_BinarySearch_string_string.body (slices_BinarySearch_string_string.snd  hp4)) ?_)
  rintro _ _ ⟨rfl,rfl⟩
  refine qS 9 rfl (oM · rfl) (qS 16 rfl (ok_extract · (.tmp rfl) rfl) ?_)
  try dsimp only [w0,w1,w2,w3]
  refine qS 17 rfl (ok_extract · (.tmp rfl) rfl) (qS 5 rfl (oA · rfl) (qS 6 rfl (oA · rfl) (rE ?_)))
  try dsimp only [w0,w1,w2,w3]
  refine qQ rfl (qR rfl rfl (qS 18 rfl (oM · rfl) (qS 4 rfl (oA · rfl) (rE ?_))))
  try dsimp only [w0,w1,w2,w3]
  cases h
  exact q_ret rfl at_.at_ rfl (res1 rfl rfl) ⟨rfl,rfl⟩
end
end set_Set_string_Has
namespace pair_Rel_int_string_Has
theorem at_ : FnAt Tryz.prog 31 Tryz.f31 := ⟨Tryz.func31,by kernel_rfl⟩
noncomputable def d0 := (Tryz.f31.body).getD .skip
noncomputable def r1 := kR (kA d0)
noncomputable def r3 := kR (kA (kB d0))
noncomputable def c4 : Code := .ret
noncomputable def c0 : Code := .seq (.region 0 r1 false) (.seq (.region 1 r3 false) c4)
theorem body : Tryz.f31.body = some c0 := by kernel_rfl
section
variable {base : Nat} {W0 : World} {β0 : Bt}
def J0 (k : Nat) (y18 : Bool) (S : HS) : Option ((Bool) × HS) :=
 some (y18,S)
theorem J0_snd {k : Nat}  {y18 : Bool} {S : HS} {p : (Bool) × HS} {Ga Gb Gc Gd Ge Gf Gg Gh Gi Gj Gk Gl Gm Gn Go Gp Gq Gr : HV} (h : J0 k y18 S = some p) : HRun Tryz.prog base W0 β0 31 none [.inRegion r3 [12],.code c4] ⟨[Ga,Gb,Gc,Gd,Ge,Gf,Gg,Gh,Gi,Gj,Gk,Gl,Gm,Gn,Go,Gp,Gq,Gr,(.bool y18)],[]⟩ S (fun v S1 => v = (.bool p.1) ∧ S1 = p.2) := by
 unfold J0 at h
 refine qS 6 rfl (oA · rfl) (rE ?_)
 try dsimp only [w0,w1,w2,w3]
 cases h
 exact q_ret rfl at_.at_ rfl (res1 rfl rfl) ⟨rfl,rfl⟩
def f (k : Nat) (x0 : (Option HA)) (x1 : Int) (x2 : (List UInt8)) (S : HS) : Option ((Bool) × HS) :=
 (if (!Option.isNone x0) = true then
 (Option.bind (x0) fun p2 =>
 (Option.bind (HS.ldM S (HA.fld p2 2)) fun p3 =>
 (Option.bind (HS.look S p3 (.int .i64 x1)) fun p4 =>
 (Option.bind (dP (Option.getD p4 (.ptr none))) fun p5 =>
 (Option.bind (set_Set_string_Has.f k p5 x2 S) fun p6 =>
 J0 k p6.1 p6.2))))) else
 J0 k false S)
theorem snd {k : Nat} {x0 : (Option HA)} {x1 : Int} {x2 : (List UInt8)} {S : HS}  {p : (Bool) × HS} (h : f k x0 x1 x2 S = some p) : HCall Tryz.prog base W0 β0 31 [(.ptr x0),(.int .i64 x1),(.str x2)] S (fun v S1 => v = (.bool p.1) ∧ S1 = p.2) := by
 unfold f at h
 refine HCall.of_run at_.at_ body ?_
 show HRun Tryz.prog base W0 β0 31 none [.code c0] ⟨[(.ptr x0),(.int .i64 x1),(.str x2),τ,τ,τ,τ,τ,τ,τ,τ,τ,τ,τ,τ,τ,τ,τ,τ],[]⟩ S _
 refine qQ rfl (qR rfl rfl (qS 6 rfl (ok_assign · (.bool _)) (rE ?_)))
 try dsimp only [w0,w1,w2,w3]
 refine qQ rfl (qR rfl rfl (qS 7 rfl (oM · rfl) (qS 8 rfl (ok_nil_ptr · tu55 (.tmp rfl) (.inr ⟨rfl,rfl⟩)) (qS 9 rfl (oM · rfl) ?_))))
 rcases ifc h with ⟨hc1,h⟩ | ⟨hc1,h⟩
 ·refine qG 9 10 rfl hc1 (oM · rfl) ?_
  try dsimp only [w0,w1,w2,w3]
  obtain ⟨p2,hp2,h⟩ := bindo h
  obtain ⟨p3,hp3,h⟩ := bindo h
  refine qG 9 11 rfl hc1 (oN · rfl hp2) (qG 9 12 rfl hc1 (oF · fi81_2 (by decide) rfl rfl) (qG 9 13 rfl hc1 (oL · sc78 rfl rfl (ldM_out hp3)) (qG 9 14 rfl hc1 (oM · rfl) ?_)))
  try dsimp only [w0,w1,w2,w3]
  obtain ⟨p4,hp4,h⟩ := bindo h
  obtain ⟨p5,hp5,h⟩ := bindo h
  obtain ⟨p6,hp6,h⟩ := bindo h
  refine qG 9 15 rfl hc1 (ok_lookup · tu78 zi87 (fun β => .ptrNil) (keyInt tu3) (.tmp rfl) (.tmp rfl) hp4 (dP_out hp5)) (qG 9 16 rfl hc1 (oM · rfl) (q_call_g (t := 9) (dst := some 17) rfl rfl rfl hc1 (.func _) (.cons (.tmp rfl) (.cons (.tmp rfl) Evs.nil)) (HInv.static set_Set_string_Has.at_ set_Set_string_Has.body (set_Set_string_Has.snd  hp6)) ?_))
  rintro _ _ ⟨rfl,rfl⟩
  refine qS 18 rfl (ok_pick_tt · (.tmp rfl) hc1 (.tmp rfl)) ?_
  try dsimp only [w0,w1,w2,w3]
  try dsimp only [w0,w1,w2,w3]
  exact J0_snd  h
 ·refine q_skip (dst := some 10) (t := 9) rfl rfl rfl (bfalse hc1) ?_
  try dsimp only [w0,w1,w2,w3]
  refine q_skip (dst := some 11) (t := 9) rfl rfl rfl (bfalse hc1) (q_skip (dst := some 12) (t := 9) rfl rfl rfl (bfalse hc1) (q_skip (dst := some 13) (t := 9) rfl rfl rfl (bfalse hc1) (q_skip (dst := some 14) (t := 9) rfl rfl rfl (bfalse hc1) ?_)))
  try dsimp only [w0,w1,w2,w3]
  refine q_skip (dst := some 15) (t := 9) rfl rfl rfl (bfalse hc1) (q_skip (dst := some 16) (t := 9) rfl rfl rfl (bfalse hc1) (q_skip (dst := some 17) (t := 9) rfl rfl rfl (bfalse hc1) (qS 18 rfl (ok_pick_ff · (.tmp rfl) (bfalse hc1) (.bool _)) ?_)))
  try dsimp only [w0,w1,w2,w3]
  try dsimp only [w0,w1,w2,w3]
  exact J0_snd  h
end
end pair_Rel_int_string_Has
namespace slices_Delete_string_string
theorem at_ : FnAt Tryz.prog 73 Tryz.f73 := ⟨Tryz.func73,by kernel_rfl⟩
noncomputable def d0 := (Tryz.f73.body).getD .skip
noncomputable def r1 := kR (kA d0)
noncomputable def r3 := kR (kA (kB d0))
noncomputable def r6 := kR (kA (kA (kB (kB d0))))
noncomputable def r9 := kR (kA (kA (kB (kA (kB (kB d0))))))
noncomputable def d12 := kB (kB (kB d0))
noncomputable def r13 := kR (kA d12)
noncomputable def r15 := kR (kA (kB d12))
noncomputable def r17 := kR (kA (kB (kB d12)))
noncomputable def r19 := kR (kA (kB (kB (kB d12))))
noncomputable def c0 : Code := .seq (.region 0 r1 false) (.seq (.region 1 r3 false) (.seq (.seq (.region 2 r6 false) (.cond (.tmp 16) (.seq (.region 3 r9 false) .ret) .skip)) (.seq (.region 4 r13 false) (.seq (.region 5 r15 true) (.seq (.region 6 r17 false) (.seq (.region 7 r19 false) .ret))))))
theorem body : Tryz.f73.body = some c0 := by kernel_rfl
section
variable {base : Nat} {W0 : World} {β0 : Bt}
def f (x0 : Sl) (x1 : Int) (x2 : Int) (S : HS) : Option ((Sl) × HS) :=
 (Option.bind (HS.cut3 S x0 x1 x2 (Sl.len x0 : Int) 1) fun p1 =>
 (if x1 = x2 then
 some (x0,S) else
 (Option.bind (HS.cut S x0 0 x1 1) fun p3 =>
 (Option.bind (HS.cut S x0 x2 (Sl.len x0 : Int) 1) fun p4 =>
 (Option.bind (HS.rows S p4 1) fun p5 =>
 (Option.bind (HS.app S p3 p5 1) fun p6 =>
 (Option.bind (HS.cut (p6.2) (p6.1) (Sl.len (p6.1) : Int) (Sl.len x0 : Int) 1) fun p7 =>
 (Option.bind (HS.over (p6.2) p7 (List.replicate (Sl.len p7) [(.str [])]) 1) fun p8 =>
 some ((p6.1),p8)))))))))
theorem snd {x0 : Sl} {x1 : Int} {x2 : Int} {S : HS}  {p : (Sl) × HS} (h : f x0 x1 x2 S = some p) : HCall Tryz.prog base W0 β0 73 [(Sl.hv x0),(.int .i64 x1),(.int .i64 x2)] S (fun v S1 => v = (Sl.hv p.1) ∧ S1 = p.2) := by
 unfold f at h
 refine HCall.of_run at_.at_ body ?_
 show HRun Tryz.prog base W0 β0 73 none [.code c0] ⟨[(Sl.hv x0),(.int .i64 x1),(.int .i64 x2),τ,τ,τ,τ,τ,τ,τ,τ,τ,τ,τ,τ,τ,τ,τ,τ,τ,τ,τ,τ,τ,τ,τ,τ,τ,τ,τ,τ,τ,τ],[]⟩ S _
 refine qQ rfl (qR rfl rfl (qS 6 rfl (ok_assign · (.const fun _ => .slNil none)) (rE ?_)))
 try dsimp only [w0,w1,w2,w3]
 refine qQ rfl (qR rfl rfl (qS 8 rfl (oM · rfl) (qS 9 rfl (oM · rfl) (qS 10 rfl (oM · rfl) (qS 11 rfl (oM · rfl) ?_)))))
 try dsimp only [w0,w1,w2,w3]
 obtain ⟨p1,hp1,h⟩ := bindo h
 refine qS 12 rfl (ok_len_sl (q := Sl.a x0) (n := Sl.len x0) (z := Sl.cap x0) · rfl tu38 (.tmp rfl)) (qS 13 rfl (ok_slice3 (kl := .i64) (kh := .i64) (s := x0) (l := x1) (h := x2) · tu38 si9 (.tmp rfl) (.inr ⟨_,rfl,(.tmp rfl)⟩) (.inr ⟨_,rfl,(.tmp rfl)⟩) (.tmp rfl) hp1) (rE ?_))
 try dsimp only [w0,w1,w2,w3]
 refine qQ rfl (qQ rfl (qR rfl rfl (qS 14 rfl (oM · rfl) (qS 15 rfl (oM · rfl) (qS 16 rfl (oB · rfl rfl rfl) (rE ?_))))))
 try dsimp only [w0,w1,w2,w3]
 rcases ifc h with ⟨hc2,h⟩ | ⟨hc2,h⟩
 ·refine q_cond_t rfl (.tmp rfl) (decide_eq_true hc2) (qQ rfl (qR rfl rfl (qS 17 rfl (oM · rfl) (qS 6 rfl (oA · rfl) (rE ?_)))))
  try dsimp only [w0,w1,w2,w3]
  cases h
  exact q_ret rfl at_.at_ rfl (res1 rfl rfl) ⟨rfl,rfl⟩
 ·refine q_cond_f rfl (.tmp rfl) (decide_eq_false hc2) (q_skipc rfl (qQ rfl (qR rfl rfl (qS 18 rfl (oM · rfl) (qS 19 rfl (ok_len_sl (q := Sl.a x0) (n := Sl.len x0) (z := Sl.cap x0) · rfl tu38 (.tmp rfl)) (qS 7 rfl (oA · rfl) (rE ?_)))))))
  try dsimp only [w0,w1,w2,w3]
  refine qQ rfl ?_
  refine x_start (cls := [0,0,1,0,0,1,2,0]) (rk := [0,1,2,3,4,5,6,7]) rfl (by kernel_rfl) ?_
  refine yf 20 [0] rfl (oM · rfl) ?_
  refine yf 21 [1] rfl (oM · rfl) ?_
  obtain ⟨p3,hp3,h⟩ := bindo h
  refine yr 22 [20,21] rfl (ok_slice (kl := .i64) (kh := .i64) (s := x0) (l := 0) (h := x1) · tu38 si9 (.tmp rfl) (.inl ⟨rfl,rfl⟩) (.inr ⟨_,rfl,(.tmp rfl)⟩) hp3) ?_
  refine yf 23 [0] rfl (oM · rfl) ?_
  try dsimp only [w0,w1,w2,w3]
  refine yf 24 [2] rfl (oM · rfl) ?_
  obtain ⟨p4,hp4,h⟩ := bindo h
  refine yr 25 [23,24] rfl (ok_slice (kl := .i64) (kh := .i64) (s := x0) (l := x2) (h := (Sl.len x0 : Int)) · tu38 si9 (.tmp rfl) (.inr ⟨_,rfl,(.tmp rfl)⟩) (.inl ⟨rfl,rfl⟩) hp4) ?_
  obtain ⟨p5,hp5,h⟩ := bindo h
  obtain ⟨p6,hp6,h⟩ := bindo h
  refine ye 26 [22,25] rfl (ok_append (s := p3) (s1 := p4) el38 · rfl rfl ⟨_,tu38⟩ (.tmp rfl) (.tmp rfl) hp5 hp6) ?_
  refine yf 0 [26] rfl (oA · rfl) ?_
  refine x_rest rfl ?_
  refine rE ?_
  try dsimp only [w0,w1,w2,w3]
  refine qQ rfl (qR rfl rfl (qS 27 rfl (oM · rfl) (qS 28 rfl (oM · rfl) (qS 29 rfl (ok_len_sl (q := Sl.a (p6.1)) (n := Sl.len (p6.1)) (z := Sl.cap (p6.1)) · rfl tu38 (.tmp rfl)) (qS 30 rfl (oM · rfl) ?_)))))
  try dsimp only [w0,w1,w2,w3]
  obtain ⟨p7,hp7,h⟩ := bindo h
  obtain ⟨p8,hp8,h⟩ := bindo h
  refine qS 31 rfl (ok_slice (kl := .i64) (kh := .i64) (s := (p6.1)) (l := (Sl.len (p6.1) : Int)) (h := (Sl.len x0 : Int)) · tu38 si9 (.tmp rfl) (.inr ⟨_,rfl,(.tmp rfl)⟩) (.inr ⟨_,rfl,(.tmp rfl)⟩) hp7) (qN rfl (ok_clear (s := p7) el38 · rfl (.tmp rfl) hp8) (rE ?_))
  try dsimp only [w0,w1,w2,w3]
  refine qQ rfl (qR rfl rfl (qS 32 rfl (oM · rfl) (qS 6 rfl (oA · rfl) (rE ?_))))
  try dsimp only [w0,w1,w2,w3]
  cases h
  exact q_ret rfl at_.at_ rfl (res1 rfl rfl) ⟨rfl,rfl⟩
end
end slices_Delete_string_string
namespace slices_Delete_string_string_w
theorem at_ : FnAt Tryz.prog 73 Tryz.f73 := slices_Delete_string_string.at_
theorem body : Tryz.f73.body = some slices_Delete_string_string.c0 := slices_Delete_string_string.body
def f (x0 : Sl) (x1 : Int) (x2 : Int) (S : HS) : Option ((Sl) × HS) := HS.del S x0 x1 x2 1
theorem snd {base : Nat} {W0 : World} {β0 : Bt} {x0 : Sl} {x1 x2 : Int} {S : HS} {p : (Sl) × HS} (h : f x0 x1 x2 S = some p) : HCall Tryz.prog base W0 β0 73 [(Sl.hv x0),(.int .i64 x1),(.int .i64 x2)] S (fun v S1 => v = (Sl.hv p.1) ∧ S1 = p.2) :=
 del_snd (zr := [(.str [])]) (fun _ _ _ h => slices_Delete_string_string.snd h) h
end slices_Delete_string_string_w
namespace set_Set_string_Remove
theorem at_ : FnAt Tryz.prog 55 Tryz.f55 := ⟨Tryz.func55,by kernel_rfl⟩
noncomputable def d0 := (Tryz.f55.body).getD .skip
noncomputable def r1 := kR (kA d0)
noncomputable def r3 := kR (kA (kB d0))
noncomputable def r6 := kR (kA (kA (kB (kB d0))))
noncomputable def r9 := kR (kA (kA (kB (kA (kB (kB d0))))))
noncomputable def d12 := kB (kB (kB d0))
noncomputable def r14 := kR (kA (kA d12))
noncomputable def d16 := kA (kB (kA d12))
noncomputable def r18 := kR (kA (kA d16))
noncomputable def d23 := kB (kB (kA d16))
noncomputable def r26 := kR (kA (kA (kA d23)))
noncomputable def d27 := kB (kA (kA d23))
noncomputable def r28 := kR (kA d27)
noncomputable def r30 := kR (kA (kB d27))
noncomputable def r33 := kR (kA (kA (kB (kB d27))))
noncomputable def r34 := kR (kB (kA (kB (kB d27))))
noncomputable def r36 := kR (kB d23)
noncomputable def r38 := kR (kA (kB d12))
noncomputable def c37 : Code := .seq (.region 12 r38 false) .ret
noncomputable def c36 : Code := .region 11 r36 false
noncomputable def c17 : Code := .seq (.region 5 r18 false) (.seq (.cond (.tmp 15) .skip (.exit 0)) (.seq (.block 1 (.seq (.region 6 r26 false) (.seq (.region 7 r28 false) (.seq (.region 8 r30 false) (.cond (.tmp 27) (.seq (.region 9 r33 false) (.region 10 r34 false)) .skip))))) c36))
noncomputable def c0 : Code := .seq (.region 0 r1 false) (.seq (.region 1 r3 false) (.seq (.seq (.region 2 r6 false) (.cond (.tmp 11) (.seq (.region 3 r9 false) .ret) .skip)) (.seq (.seq (.region 4 r14 false) (.block 0 (.loop c17))) c37)))
theorem body : Tryz.f55.body = some c0 := by kernel_rfl
section
variable {base : Nat} {W0 : World} {β0 : Bt}
def J1 (k : Nat) (rec0 : (Option HA) → Int → Sl → Int → Int → HS → Option ((Int) × HS)) (y0 : (Option HA)) (y5 : Int) (y12 : Sl) (y13 : Int) (y14 : Int) (S : HS) : Option ((Int) × HS) :=
 rec0 y0 y5 y12 y13 (w64 (y14 + 1)) S
theorem J1_snd {k : Nat} {rec0 : (Option HA) → Int → Sl → Int → Int → HS → Option ((Int) × HS)} (hrec0 : ∀ ⦃y0 : (Option HA)⦄ ⦃y5 : Int⦄ ⦃y12 : Sl⦄ ⦃y13 : Int⦄ ⦃y14 : Int⦄ ⦃S : HS⦄ ⦃p : (Int) × HS⦄ ⦃Gb Gc Gd Ge Gg Gh Gi Gj Gk Gl Gp Gq Gr Gs Gt Gu Gv Gw Gx Gy Gz Ka Kb Kc Kd Ke Kf Kg Kh Ki Kj Kk Kl Km Kn Ko Kp Kq : HV⦄,rec0 y0 y5 y12 y13 y14 S = some p → HRun Tryz.prog base W0 β0 55 none [.inLoop c17,.inBlock 0,.code c37] ⟨[(.ptr y0),Gb,Gc,Gd,Ge,(.int .i64 y5),Gg,Gh,Gi,Gj,Gk,Gl,(Sl.hv y12),(.int .i64 y13),(.int .i64 y14),Gp,Gq,Gr,Gs,Gt,Gu,Gv,Gw,Gx,Gy,Gz,Ka,Kb,Kc,Kd,Ke,Kf,Kg,Kh,Ki,Kj,Kk,Kl,Km,Kn,Ko,Kp,Kq],[]⟩ S (fun v S1 => v = (.int .i64 p.1) ∧ S1 = p.2)) {y0 : (Option HA)} {y5 : Int} {y12 : Sl} {y13 : Int} {y14 : Int} {S : HS} {p : (Int) × HS} {Gb Gc Gd Ge Gg Gh Gi Gj Gk Gl Gp Gq Gr Gs Gt Gu Gv Gw Gx Gy Gz Ka Kb Kc Kd Ke Kf Kg Kh Ki Kj Kk Kl Km Kn Ko Kp Kq : HV} (h : J1 k rec0 y0 y5 y12 y13 y14 S = some p) : HRun Tryz.prog base W0 β0 55 none [.code c36,.inLoop c17,.inBlock 0,.code c37] ⟨[(.ptr y0),Gb,Gc,Gd,Ge,(.int .i64 y5),Gg,Gh,Gi,Gj,Gk,Gl,(Sl.hv y12),(.int .i64 y13),(.int .i64 y14),Gp,Gq,Gr,Gs,Gt,Gu,Gv,Gw,Gx,Gy,Gz,Ka,Kb,Kc,Kd,Ke,Kf,Kg,Kh,Ki,Kj,Kk,Kl,Km,Kn,Ko,Kp,Kq],[]⟩ S (fun v S1 => v = (.int .i64 p.1) ∧ S1 = p.2) := by
 unfold J1 at h
 refine qR rfl rfl (qS 41 rfl (oC · rfl rfl) (qS 14 rfl (oM · rfl) (rE ?_)))
 try dsimp only [w0,w1,w2,w3]
 try dsimp only [w0,w1,w2,w3]
 exact hrec0 h
def L0 (k : Nat) : Nat → (Option HA) → Int → Sl → Int → Int → HS → Option ((Int) × HS)
 | 0,_,_,_,_,_,_ => none
 | n + 1,y0,y5,y12,y13,y14,S =>
  (if y14 < y13 then
  (Option.bind (HS.idx S y12 y14 1) fun p3 =>
  (Option.bind (HS.ldS S p3) fun p4 =>
  (Option.bind (y0) fun p5 =>
  (Option.bind (HS.ldSl S (HA.fld p5 0)) fun p6 =>
  (Option.bind (slices_BinarySearch_string_string.f k p6 p4 S) fun p7 =>
  (if p7.1.2 = true then
  (Option.bind (y0) fun p9 =>
  (Option.bind (HS.ldSl p7.2 (HA.fld p9 0)) fun p10 =>
  (Option.bind (slices_Delete_string_string_w.f p10 p7.1.1 (w64 (p7.1.1 + 1)) p7.2) fun p11 =>
  (Option.bind (y0) fun p12 =>
  (Option.bind (HS.sets p11.2 (HA.fld p12 0) [(Sl.hv p11.1)]) fun p13 =>
  J1 k (L0 k n) y0 (w64 (y5 + 1)) y12 y13 y14 p13))))) else
  J1 k (L0 k n) y0 y5 y12 y13 y14 p7.2)))))) else
  some (y5,S))
theorem L0_snd {k : Nat}  : ∀ {n : Nat} ⦃y0 : (Option HA)⦄ ⦃y5 : Int⦄ ⦃y12 : Sl⦄ ⦃y13 : Int⦄ ⦃y14 : Int⦄ ⦃S : HS⦄ ⦃p : (Int) × HS⦄ ⦃Gb Gc Gd Ge Gg Gh Gi Gj Gk Gl Gp Gq Gr Gs Gt Gu Gv Gw Gx Gy Gz Ka Kb Kc Kd Ke Kf Kg Kh Ki Kj Kk Kl Km Kn Ko Kp Kq : HV⦄,L0 k n y0 y5 y12 y13 y14 S = some p → HRun Tryz.prog base W0 β0 55 none [.inLoop c17,.inBlock 0,.code c37] ⟨[(.ptr y0),Gb,Gc,Gd,Ge,(.int .i64 y5),Gg,Gh,Gi,Gj,Gk,Gl,(Sl.hv y12),(.int .i64 y13),(.int .i64 y14),Gp,Gq,Gr,Gs,Gt,Gu,Gv,Gw,Gx,Gy,Gz,Ka,Kb,Kc,Kd,Ke,Kf,Kg,Kh,Ki,Kj,Kk,Kl,Km,Kn,Ko,Kp,Kq],[]⟩ S (fun v S1 => v = (.int .i64 p.1) ∧ S1 = p.2) := by
 intro n
 induction n with
 | zero => intro _ _ _ _ _ _ _ _ _ _ _ _ _ _ _ _ _ _ _ _ _ _ _ _ _ _ _ _ _ _ _ _ _ _ _ _ _ _ _ _ _ _ _ _ _ h; cases h
 | succ n ih =>
  intro y0 y5 y12 y13 y14 S p Gb Gc Gd Ge Gg Gh Gi Gj Gk Gl Gp Gq Gr Gs Gt Gu Gv Gw Gx Gy Gz Ka Kb Kc Kd Ke Kf Kg Kh Ki Kj Kk Kl Km Kn Ko Kp Kq h
  simp only [L0] at h
  refine hr_inLoop (qQ rfl (qR rfl rfl (qS 15 rfl (oB · rfl rfl rfl) (rE ?_))))
  try dsimp only [w0,w1,w2,w3]
  refine qQ rfl ?_
  rcases ifc h with ⟨hc2,h⟩ | ⟨hc2,h⟩
  ·obtain ⟨p3,hp3,h⟩ := bindo h
   obtain ⟨p4,hp4,h⟩ := bindo h
   refine q_cond_t rfl (.tmp rfl) (decide_eq_true hc2) (q_skipc rfl (qQ rfl (q_block rfl (qQ rfl (qR rfl rfl (qS 16 rfl (oX (s := y12) · tu38 sz9 rfl rfl hp3) (qS 17 rfl (oL · sc9 rfl rfl (ldS_out hp4)) (qS 7 rfl (oA · rfl) (rE ?_)))))))))
   try dsimp only [w0,w1,w2,w3]
   obtain ⟨p5,hp5,h⟩ := bindo h
   obtain ⟨p6,hp6,h⟩ := bindo h
   refine qQ rfl (qR rfl rfl (qS 19 rfl (oM · rfl) (qS 20 rfl (oN · rfl hp5) (qS 21 rfl (oF · fi103_0 (by decide) rfl rfl) (qS 22 rfl (oL · sc38 rfl rfl (ldSl_out hp6)) ?_)))))
   try dsimp only [w0,w1,w2,w3]
   obtain ⟨p7,hp7,h⟩ := bindo h
   refine qS 23 rfl (oM · rfl) (q_call (dst := some 24) rfl (.func _) (.cons (.tmp rfl) (.cons (.tmp rfl) Evs.nil)) (HInv.static slices_BinarySearch_string_string.at_ slices_BinarySearch_string_string.body (slices_BinarySearch_string_string.snd  hp7)) ?_)
   rintro _ _ ⟨rfl,rfl⟩
   refine qS 18 rfl (oM · rfl) (qS 25 rfl (ok_extract · (.tmp rfl) rfl) ?_)
   try dsimp only [w0,w1,w2,w3]
   refine qS 26 rfl (ok_extract · (.tmp rfl) rfl) (qS 8 rfl (oA · rfl) (qS 9 rfl (oA · rfl) (rE ?_)))
   try dsimp only [w0,w1,w2,w3]
   refine qQ rfl (qR rfl rfl (qS 27 rfl (oM · rfl) (rE ?_)))
   try dsimp only [w0,w1,w2,w3]
   rcases ifc h with ⟨hc8,h⟩ | ⟨hc8,h⟩
   ·obtain ⟨p9,hp9,h⟩ := bindo h
    refine q_cond_t rfl (.tmp rfl) hc8 (qQ rfl (qR rfl rfl (qS 28 rfl (oM · rfl) (qS 29 rfl (oM · rfl) (qS 30 rfl (oN · rfl hp9) (qS 31 rfl (oF · fi103_0 (by decide) rfl rfl) ?_))))))
    try dsimp only [w0,w1,w2,w3]
    obtain ⟨p10,hp10,h⟩ := bindo h
    refine qS 32 rfl (oL · sc38 rfl rfl (ldSl_out hp10)) (qS 33 rfl (oM · rfl) (qS 34 rfl (oM · rfl) (qS 35 rfl (oC · rfl rfl) ?_)))
    try dsimp only [w0,w1,w2,w3]
    obtain ⟨p11,hp11,h⟩ := bindo h
    refine q_call (dst := some 36) rfl (.func _) (.cons (.tmp rfl) (.cons (.tmp rfl) (.cons (.tmp rfl) Evs.nil))) (HInv.static slices_Delete_string_string_w.at_ slices_Delete_string_string_w.body (slices_Delete_string_string_w.snd  hp11)) ?_
    rintro _ _ ⟨rfl,rfl⟩
    obtain ⟨p12,hp12,h⟩ := bindo h
    obtain ⟨p13,hp13,h⟩ := bindo h
    refine qS 37 rfl (oN · rfl hp12) (qS 38 rfl (oF · fi103_0 (by decide) rfl rfl) (qN rfl (ok_store_s (v := (Sl.hv p11.1)) · sz38 (.tmp rfl) rfl (.tmp rfl) rfl hp13) (rE ?_)))
    try dsimp only [w0,w1,w2,w3]
    refine qR rfl rfl (qS 39 rfl (oM · rfl) (qS 40 rfl (oC · rfl rfl) (qS 5 rfl (oA · rfl) (rE ?_))))
    try dsimp only [w0,w1,w2,w3]
    refine hr_inBlock ?_
    try dsimp only [w0,w1,w2,w3]
    exact J1_snd ih h
   ·refine q_cond_f rfl (.tmp rfl) (bfalse hc8) (q_skipc rfl (hr_inBlock ?_))
    try dsimp only [w0,w1,w2,w3]
    exact J1_snd ih h
  ·refine q_cond_f rfl (.tmp rfl) (decide_eq_false hc2) (q_exit rfl rfl (qQ rfl (qR rfl rfl (qS 42 rfl (oM · rfl) (qS 4 rfl (oA · rfl) (rE ?_))))))
   try dsimp only [w0,w1,w2,w3]
   cases h
   exact q_ret rfl at_.at_ rfl (res1 rfl rfl) ⟨rfl,rfl⟩
def f (k : Nat) (x0 : (Option HA)) (x1 : Sl) (S : HS) : Option ((Int) × HS) :=
 (if (Option.isNone x0) = true then
 some (0,S) else
 L0 k k x0 0 x1 (Sl.len x1 : Int) 0 S)
theorem snd {k : Nat} {x0 : (Option HA)} {x1 : Sl} {S : HS}  {p : (Int) × HS} (h : f k x0 x1 S = some p) : HCall Tryz.prog base W0 β0 55 [(.ptr x0),(Sl.hv x1)] S (fun v S1 => v = (.int .i64 p.1) ∧ S1 = p.2) := by
 unfold f at h
 refine HCall.of_run at_.at_ body ?_
 show HRun Tryz.prog base W0 β0 55 none [.code c0] ⟨[(.ptr x0),(Sl.hv x1),τ,τ,τ,τ,τ,τ,τ,τ,τ,τ,τ,τ,τ,τ,τ,τ,τ,τ,τ,τ,τ,τ,τ,τ,τ,τ,τ,τ,τ,τ,τ,τ,τ,τ,τ,τ,τ,τ,τ,τ,τ],[]⟩ S _
 refine qQ rfl (qR rfl rfl (qS 4 rfl (ok_assign · (.int _ _)) (rE ?_)))
 try dsimp only [w0,w1,w2,w3]
 refine qQ rfl (qR rfl rfl (qS 5 rfl (ok_assign · (.int _ _)) (rE ?_)))
 try dsimp only [w0,w1,w2,w3]
 refine qQ rfl (qQ rfl (qR rfl rfl (qS 10 rfl (oM · rfl) (qS 11 rfl (ok_nil_ptr · tu87 (.tmp rfl) (.inl ⟨rfl,rfl⟩)) (rE ?_)))))
 try dsimp only [w0,w1,w2,w3]
 rcases ifc h with ⟨hc1,h⟩ | ⟨hc1,h⟩
 ·refine q_cond_t rfl (.tmp rfl) hc1 (qQ rfl (qR rfl rfl (qS 4 rfl (ok_assign · (.int _ _)) (rE ?_))))
  try dsimp only [w0,w1,w2,w3]
  cases h
  exact q_ret rfl at_.at_ rfl (res1 rfl rfl) ⟨rfl,rfl⟩
 ·refine q_cond_f rfl (.tmp rfl) (bfalse hc1) (q_skipc rfl (qQ rfl (qQ rfl (qR rfl rfl (qS 12 rfl (oM · rfl) (qS 13 rfl (ok_len_sl (q := Sl.a x1) (n := Sl.len x1) (z := Sl.cap x1) · rfl tu38 (.tmp rfl)) (qS 14 rfl (ok_move · (.int _ _)) (rE ?_))))))))
  try dsimp only [w0,w1,w2,w3]
  refine q_block rfl (q_loop rfl ?_)
  try dsimp only [w0,w1,w2,w3]
  exact L0_snd  h
end
end set_Set_string_Remove
namespace set_Set_string_Len
theorem at_ : FnAt Tryz.prog 47 Tryz.f47 := ⟨Tryz.func47,by kernel_rfl⟩
noncomputable def d0 := (Tryz.f47.body).getD .skip
noncomputable def r1 := kR (kA d0)
noncomputable def r4 := kR (kA (kA (kB d0)))
noncomputable def r7 := kR (kA (kA (kB (kA (kB d0)))))
noncomputable def r11 := kR (kA (kB (kB d0)))
noncomputable def c0 : Code := .seq (.region 0 r1 false) (.seq (.seq (.region 1 r4 false) (.cond (.tmp 4) (.seq (.region 2 r7 false) .ret) .skip)) (.seq (.region 3 r11 false) .ret))
theorem body : Tryz.f47.body = some c0 := by kernel_rfl
section
variable {base : Nat} {W0 : World} {β0 : Bt}
def f (x0 : (Option HA)) (S : HS) : Option ((Int) × HS) :=
 (if (Option.isNone x0) = true then
 some (0,S) else
 (Option.bind (x0) fun p2 =>
 (Option.bind (HS.ldSl S (HA.fld p2 0)) fun p3 =>
 some ((Sl.len p3 : Int),S))))
theorem snd {x0 : (Option HA)} {S : HS}  {p : (Int) × HS} (h : f x0 S = some p) : HCall Tryz.prog base W0 β0 47 [(.ptr x0)] S (fun v S1 => v = (.int .i64 p.1) ∧ S1 = p.2) := by
 unfold f at h
 refine HCall.of_run at_.at_ body ?_
 show HRun Tryz.prog base W0 β0 47 none [.code c0] ⟨[(.ptr x0),τ,τ,τ,τ,τ,τ,τ,τ,τ],[]⟩ S _
 refine qQ rfl (qR rfl rfl (qS 2 rfl (ok_assign · (.int _ _)) (rE ?_)))
 try dsimp only [w0,w1,w2,w3]
 refine qQ rfl (qQ rfl (qR rfl rfl (qS 3 rfl (oM · rfl) (qS 4 rfl (ok_nil_ptr · tu87 (.tmp rfl) (.inl ⟨rfl,rfl⟩)) (rE ?_)))))
 try dsimp only [w0,w1,w2,w3]
 rcases ifc h with ⟨hc1,h⟩ | ⟨hc1,h⟩
 ·refine q_cond_t rfl (.tmp rfl) hc1 (qQ rfl (qR rfl rfl (qS 2 rfl (ok_assign · (.int _ _)) (rE ?_))))
  try dsimp only [w0,w1,w2,w3]
  cases h
  exact q_ret rfl at_.at_ rfl (res1 rfl rfl) ⟨rfl,rfl⟩
 ·obtain ⟨p2,hp2,h⟩ := bindo h
  obtain ⟨p3,hp3,h⟩ := bindo h
  refine q_cond_f rfl (.tmp rfl) (bfalse hc1) (q_skipc rfl (qQ rfl (qR rfl rfl (qS 5 rfl (oM · rfl) (qS 6 rfl (oN · rfl hp2) (qS 7 rfl (oF · fi103_0 (by decide) rfl rfl) (qS 8 rfl (oL · sc38 rfl rfl (ldSl_out hp3)) ?_)))))))
  try dsimp only [w0,w1,w2,w3]
  refine qS 9 rfl (ok_len_sl (q := Sl.a p3) (n := Sl.len p3) (z := Sl.cap p3) · rfl tu38 (.tmp rfl)) (qS 2 rfl (oA · rfl) (rE ?_))
  try dsimp only [w0,w1,w2,w3]
  cases h
  exact q_ret rfl at_.at_ rfl (res1 rfl rfl) ⟨rfl,rfl⟩
end
end set_Set_string_Len
namespace pair_take_int_string
theorem at_ : FnAt Tryz.prog 39 Tryz.f39 := ⟨Tryz.func39,by kernel_rfl⟩
noncomputable def d0 := (Tryz.f39.body).getD .skip
noncomputable def r1 := kR (kA d0)
noncomputable def r3 := kR (kA (kB d0))
noncomputable def r5 := kR (kA (kB (kB d0)))
noncomputable def c0 : Code := .seq (.region 0 r1 false) (.seq (.region 1 r3 false) (.cond (.tmp 16) (.region 2 r5 false) .skip))
theorem body : Tryz.f39.body = some c0 := by kernel_rfl
section
variable {base : Nat} {W0 : World} {β0 : Bt}
def J0 (k : Nat) (S : HS) : Option ((Unit) × HS) :=
 some ((),S)
theorem J0_snd {k : Nat}  {S : HS} {p : (Unit) × HS} {Ga Gb Gc Gd Ge Gf Gg Gh Gi Gj Gk Gl Gm Gn Go Gp Gq Gr Gs : HV} (h : J0 k S = some p) : HRun Tryz.prog base W0 β0 39 none [] ⟨[Ga,Gb,Gc,Gd,Ge,Gf,Gg,Gh,Gi,Gj,Gk,Gl,Gm,Gn,Go,Gp,Gq,Gr,Gs],[]⟩ S (fun v S1 => v = (.tup []) ∧ S1 = p.2) := by
 unfold J0 at h
 cases h
 exact q_end at_.at_ rfl (res0 rfl) ⟨rfl,rfl⟩
def f (k : Nat) (x0 : (Option Nat)) (x1 : Int) (x2 : (List UInt8)) (S : HS) : Option ((Unit) × HS) :=
 (Option.bind (HS.look S x0 (.int .i64 x1)) fun p1 =>
 (Option.bind (dP (Option.getD p1 (.ptr none))) fun p2 =>
 (letv (HS.lit S [[(.str x2)]] 1) fun p3 =>
 (Option.bind (set_Set_string_Remove.f k p2 (p3.1) (p3.2)) fun p4 =>
 (Option.bind (HS.look p4.2 x0 (.int .i64 x1)) fun p5 =>
 (Option.bind (dP (Option.getD p5 (.ptr none))) fun p6 =>
 (Option.bind (set_Set_string_Len.f p6 p4.2) fun p7 =>
 (if p7.1 = 0 then
 (Option.bind (HS.mdel p7.2 x0 (.int .i64 x1)) fun p9 =>
 J0 k p9) else
 J0 k p7.2))))))))
theorem snd {k : Nat} {x0 : (Option Nat)} {x1 : Int} {x2 : (List UInt8)} {S : HS}  {p : (Unit) × HS} (h : f k x0 x1 x2 S = some p) : HCall Tryz.prog base W0 β0 39 [(.map x0),(.int .i64 x1),(.str x2)] S (fun v S1 => v = (.tup []) ∧ S1 = p.2) := by
 unfold f at h
 refine HCall.of_run at_.at_ body ?_
 show HRun Tryz.prog base W0 β0 39 none [.code c0] ⟨[(.map x0),(.int .i64 x1),(.str x2),τ,τ,τ,τ,τ,τ,τ,τ,τ,τ,τ,τ,τ,τ,τ,τ],[]⟩ S _
 obtain ⟨p1,hp1,h⟩ := bindo h
 obtain ⟨p2,hp2,h⟩ := bindo h
 refine qQ rfl (qR rfl rfl (qS 6 rfl (oM · rfl) (qS 7 rfl (oM · rfl) (qS 8 rfl (ok_lookup · tu78 zi87 (fun β => .ptrNil) (keyInt tu3) (.tmp rfl) (.tmp rfl) hp1 (dP_out hp2)) (qS 9 rfl (oM · rfl) ?_)))))
 try dsimp only [w0,w1,w2,w3]
 obtain ⟨p3,hp3,h⟩ := leto h
 obtain ⟨p4,hp4,h⟩ := bindo h
 refine qS 10 rfl (ok_buildSlice_s (xs := [(.tmp 9)]) el38 · rfl rfl (by decide) (.cons (.tmp rfl) Evs.nil) rfl rfl hp3) (q_call (dst := some 11) rfl (.func _) (.cons (.tmp rfl) (.cons (.tmp rfl) Evs.nil)) (HInv.static set_Set_string_Remove.at_ set_Set_string_Remove.body (set_Set_string_Remove.snd  hp4)) ?_)
 rintro _ _ ⟨rfl,rfl⟩
 refine rE ?_
 try dsimp only [w0,w1,w2,w3]
 obtain ⟨p5,hp5,h⟩ := bindo h
 obtain ⟨p6,hp6,h⟩ := bindo h
 obtain ⟨p7,hp7,h⟩ := bindo h
 refine qQ rfl (qR rfl rfl (qS 12 rfl (oM · rfl) (qS 13 rfl (oM · rfl) (qS 14 rfl (ok_lookup · tu78 zi87 (fun β => .ptrNil) (keyInt tu3) (.tmp rfl) (.tmp rfl) hp5 (dP_out hp6)) (q_call (dst := some 15) rfl (.func _) (.cons (.tmp rfl) Evs.nil) (HInv.static set_Set_string_Len.at_ set_Set_string_Len.body (set_Set_string_Len.snd  hp7)) ?_)))))
 rintro _ _ ⟨rfl,rfl⟩
 try dsimp only [w0,w1,w2,w3]
 refine qS 16 rfl (oC · rfl rfl) (rE ?_)
 try dsimp only [w0,w1,w2,w3]
 rcases ifc h with ⟨hc8,h⟩ | ⟨hc8,h⟩
 ·obtain ⟨p9,hp9,h⟩ := bindo h
  refine q_cond_t rfl (.tmp rfl) (decide_eq_true hc8) (qR rfl rfl (qS 17 rfl (oM · rfl) (qS 18 rfl (oM · rfl) (qN rfl (ok_delete · rfl tu78 (keyInt tu3) (.tmp rfl) (.tmp rfl) hp9) (rE ?_)))))
  try dsimp only [w0,w1,w2,w3]
  try dsimp only [w0,w1,w2,w3]
  exact J0_snd  h
 ·refine q_cond_f rfl (.tmp rfl) (decide_eq_false hc8) (q_skipc rfl ?_)
  try dsimp only [w0,w1,w2,w3]
  exact J0_snd  h
end
end pair_take_int_string
namespace cmp_isNaN_int
theorem at_ : FnAt Tryz.prog 106 Tryz.f106 := ⟨Tryz.func106,by kernel_rfl⟩
noncomputable def d0 := (Tryz.f106.body).getD .skip
noncomputable def r1 := kR (kA d0)
noncomputable def r3 := kR (kA (kB d0))
noncomputable def c0 : Code := .seq (.region 0 r1 false) (.seq (.region 1 r3 false) .ret)
theorem body : Tryz.f106.body = some c0 := by kernel_rfl
section
variable {base : Nat} {W0 : World} {β0 : Bt}
def f (x0 : Int) : Option (Bool) :=
 some (!decide (x0 = x0))
theorem snd {x0 : Int} {S : HS}  {p : Bool} (h : f x0 = some p) : HCall Tryz.prog base W0 β0 106 [(.int .i64 x0)] S (fun v S1 => v = (.bool p) ∧ S1 = S) := by
 unfold f at h
 refine HCall.of_run at_.at_ body ?_
 show HRun Tryz.prog base W0 β0 106 none [.code c0] ⟨[(.int .i64 x0),τ,τ,τ,τ,τ],[]⟩ S _
 refine qQ rfl (qR rfl rfl (qS 2 rfl (ok_assign · (.bool _)) (rE ?_)))
 try dsimp only [w0,w1,w2,w3]
 refine qQ rfl (qR rfl rfl (qS 3 rfl (oM · rfl) (qS 4 rfl (oM · rfl) (qS 5 rfl (oB · rfl rfl rfl) (qS 2 rfl (oA · rfl) (rE ?_))))))
 try dsimp only [w0,w1,w2,w3]
 cases h
 exact q_ret rfl at_.at_ rfl (res1 rfl rfl) ⟨rfl,rfl⟩
end
end cmp_isNaN_int
namespace cmp_Less_int
theorem at_ : FnAt Tryz.prog 91 Tryz.f91 := ⟨Tryz.func91,by kernel_rfl⟩
noncomputable def d0 := (Tryz.f91.body).getD .skip
noncomputable def r1 := kR (kA d0)
noncomputable def r3 := kR (kA (kB d0))
noncomputable def c4 : Code := .ret
noncomputable def c0 : Code := .seq (.region 0 r1 false) (.seq (.region 1 r3 false) c4)
theorem body : Tryz.f91.body = some c0 := by kernel_rfl
section
variable {base : Nat} {W0 : World} {β0 : Bt}
def J1  (y16 : Bool) : Option (Bool) :=
 some y16
theorem J1_snd   {y16 : Bool} {S : HS} {p : Bool} {Ga Gb Gc Gd Ge Gf Gg Gh Gi Gj Gk Gl Gm Gn Go Gp : HV} (h : J1  y16 = some p) : HRun Tryz.prog base W0 β0 91 none [.inRegion r3 [12],.code c4] ⟨[Ga,Gb,Gc,Gd,Ge,Gf,Gg,Gh,Gi,Gj,Gk,Gl,Gm,Gn,Go,Gp,(.bool y16)],[]⟩ S (fun v S1 => v = (.bool p) ∧ S1 = S) := by
 unfold J1 at h
 refine qS 4 rfl (oA · rfl) (rE ?_)
 try dsimp only [w0,w1,w2,w3]
 cases h
 exact q_ret rfl at_.at_ rfl (res1 rfl rfl) ⟨rfl,rfl⟩
def J0  (y0 : Int) (y1 : Int) (y11 : Bool) : Option (Bool) :=
 (if y11 = true then
 J1 true else
 J1 (decide (y0 < y1)))
theorem J0_snd   {y0 : Int} {y1 : Int} {y11 : Bool} {S : HS} {p : Bool} {Gc Gd Ge Gf Gg Gh Gi Gj Gk Gm Gn Go Gp Gq : HV} (h : J0  y0 y1 y11 = some p) : HRun Tryz.prog base W0 β0 91 none [.inRegion r3 [7,8,9,10,11,12],.code c4] ⟨[(.int .i64 y0),(.int .i64 y1),Gc,Gd,Ge,Gf,Gg,Gh,Gi,Gj,Gk,(.bool y11),Gm,Gn,Go,Gp,Gq],[]⟩ S (fun v S1 => v = (.bool p) ∧ S1 = S) := by
 unfold J0 at h
 refine qS 12 rfl (oM · rfl) ?_
 try dsimp only [w0,w1,w2,w3]
 rcases ifc h with ⟨hc4,h⟩ | ⟨hc4,h⟩
 ·refine q_skip (dst := some 13) (t := 12) rfl rfl rfl hc4 (q_skip (dst := some 14) (t := 12) rfl rfl rfl hc4 (q_skip (dst := some 15) (t := 12) rfl rfl rfl hc4 (qS 16 rfl (ok_pick_tt · (.tmp rfl) hc4 (.bool _)) ?_)))
  try dsimp only [w0,w1,w2,w3]
  try dsimp only [w0,w1,w2,w3]
  exact J1_snd  h
 ·refine qG 12 13 rfl (bfalse hc4) (oM · rfl) (qG 12 14 rfl (bfalse hc4) (oM · rfl) (qG 12 15 rfl (bfalse hc4) (oB · rfl rfl rfl) (qS 16 rfl (ok_pick_ff · (.tmp rfl) (bfalse hc4) (.tmp rfl)) ?_)))
  try dsimp only [w0,w1,w2,w3]
  try dsimp only [w0,w1,w2,w3]
  exact J1_snd  h
def f (x0 : Int) (x1 : Int) : Option (Bool) :=
 (Option.bind (cmp_isNaN_int.f x0) fun p1 =>
 (if p1 = true then
 (Option.bind (cmp_isNaN_int.f x1) fun p3 =>
 J0 x0 x1 (!p3)) else
 J0 x0 x1 false))
theorem snd {x0 : Int} {x1 : Int} {S : HS}  {p : Bool} (h : f x0 x1 = some p) : HCall Tryz.prog base W0 β0 91 [(.int .i64 x0),(.int .i64 x1)] S (fun v S1 => v = (.bool p) ∧ S1 = S) := by
 unfold f at h
 refine HCall.of_run at_.at_ body ?_
 show HRun Tryz.prog base W0 β0 91 none [.code c0] ⟨[(.int .i64 x0),(.int .i64 x1),τ,τ,τ,τ,τ,τ,τ,τ,τ,τ,τ,τ,τ,τ,τ],[]⟩ S _
 refine qQ rfl (qR rfl rfl (qS 4 rfl (ok_assign · (.bool _)) (rE ?_)))
 try dsimp only [w0,w1,w2,w3]
 obtain ⟨p1,hp1,h⟩ := bindo h
 refine qQ rfl (qR rfl rfl (qS 5 rfl (oM · rfl) (q_call (dst := some 6) rfl (.func _) (.cons (.tmp rfl) Evs.nil) (HInv.static cmp_isNaN_int.at_ cmp_isNaN_int.body (cmp_isNaN_int.snd  hp1)) ?_)))
 rintro _ _ ⟨rfl,rfl⟩
 refine qS 7 rfl (oM · rfl) ?_
 rcases ifc h with ⟨hc2,h⟩ | ⟨hc2,h⟩
 ·refine qG 7 8 rfl hc2 (oM · rfl) ?_
  try dsimp only [w0,w1,w2,w3]
  obtain ⟨p3,hp3,h⟩ := bindo h
  refine q_call_g (t := 7) (dst := some 9) rfl rfl rfl hc2 (.func _) (.cons (.tmp rfl) Evs.nil) (HInv.static cmp_isNaN_int.at_ cmp_isNaN_int.body (cmp_isNaN_int.snd  hp3)) ?_
  rintro _ _ ⟨rfl,rfl⟩
  refine qG 7 10 rfl hc2 (ok_not · (.tmp rfl)) (qS 11 rfl (ok_pick_tt · (.tmp rfl) hc2 (.tmp rfl)) ?_)
  try dsimp only [w0,w1,w2,w3]
  exact J0_snd  h
 ·refine q_skip (dst := some 8) (t := 7) rfl rfl rfl (bfalse hc2) ?_
  try dsimp only [w0,w1,w2,w3]
  refine q_skip (dst := some 9) (t := 7) rfl rfl rfl (bfalse hc2) (q_skip (dst := some 10) (t := 7) rfl rfl rfl (bfalse hc2) (qS 11 rfl (ok_pick_ff · (.tmp rfl) (bfalse hc2) (.bool _)) ?_))
  try dsimp only [w0,w1,w2,w3]
  exact J0_snd  h
end
end cmp_Less_int
namespace slices_isNaN_int
theorem at_ : FnAt Tryz.prog 92 Tryz.f92 := ⟨Tryz.func92,by kernel_rfl⟩
noncomputable def d0 := (Tryz.f92.body).getD .skip
noncomputable def r1 := kR (kA d0)
noncomputable def r3 := kR (kA (kB d0))
noncomputable def c0 : Code := .seq (.region 0 r1 false) (.seq (.region 1 r3 false) .ret)
theorem body : Tryz.f92.body = some c0 := by kernel_rfl
section
variable {base : Nat} {W0 : World} {β0 : Bt}
def f (x0 : Int) : Option (Bool) :=
 some (!decide (x0 = x0))
theorem snd {x0 : Int} {S : HS}  {p : Bool} (h : f x0 = some p) : HCall Tryz.prog base W0 β0 92 [(.int .i64 x0)] S (fun v S1 => v = (.bool p) ∧ S1 = S) := by
 unfold f at h
 refine HCall.of_run at_.at_ body ?_
 show HRun Tryz.prog base W0 β0 92 none [.code c0] ⟨[(.int .i64 x0),τ,τ,τ,τ,τ],[]⟩ S _
 refine qQ rfl (qR rfl rfl (qS 2 rfl (ok_assign · (.bool _)) (rE ?_)))
 try dsimp only [w0,w1,w2,w3]
 refine qQ rfl (qR rfl rfl (qS 3 rfl (oM · rfl) (qS 4 rfl (oM · rfl) (qS 5 rfl (oB · rfl rfl rfl) (qS 2 rfl (oA · rfl) (rE ?_))))))
 try dsimp only [w0,w1,w2,w3]
 cases h
 exact q_ret rfl at_.at_ rfl (res1 rfl rfl) ⟨rfl,rfl⟩
end
end slices_isNaN_int
namespace slices_BinarySearch_int_int
theorem at_ : FnAt Tryz.prog 74 Tryz.f74 := ⟨Tryz.func74,by kernel_rfl⟩
noncomputable def d0 := (Tryz.f74.body).getD .skip
noncomputable def r1 := kR (kA d0)
noncomputable def r3 := kR (kA (kB d0))
noncomputable def r5 := kR (kA (kB (kB d0)))
noncomputable def d6 := kB (kB (kB d0))
noncomputable def d9 := kA (kA (kA d6))
noncomputable def r11 := kR (kA (kA d9))
noncomputable def r17 := kR (kA (kA (kB d9)))
noncomputable def r19 := kR (kA (kB (kA (kB d9))))
noncomputable def r21 := kR (kA (kB (kB (kA (kB d9)))))
noncomputable def r22 := kR (kB (kB (kB (kA (kB d9)))))
noncomputable def r24 := kR (kA (kB d6))
noncomputable def c25 : Code := .ret
noncomputable def c23 : Code := .seq (.region 8 r24 false) c25
noncomputable def c9 : Code := .seq (.seq (.region 3 r11 false) (.cond (.tmp 15) .skip (.exit 0))) (.block 1 (.seq (.region 4 r17 false) (.seq (.region 5 r19 false) (.cond (.tmp 27) (.region 6 r21 false) (.region 7 r22 false)))))
noncomputable def c0 : Code := .seq (.region 0 r1 false) (.seq (.region 1 r3 false) (.seq (.region 2 r5 false) (.seq (.block 0 (.loop c9)) c23)))
theorem body : Tryz.f74.body = some c0 := by kernel_rfl
section
variable {base : Nat} {W0 : World} {β0 : Bt}
def J2 (k : Nat) (y31 : Int) (y53 : Bool) (S : HS) : Option ((Int × Bool) × HS) :=
 some ((y31,y53),S)
theorem J2_snd {k : Nat}  {y31 : Int} {y53 : Bool} {S : HS} {p : (Int × Bool) × HS} {Ga Gb Gc Gd Ge Gf Gg Gh Gi Gj Gk Gl Gm Gn Go Gp Gq Gr Gs Gt Gu Gv Gw Gx Gy Gz Ka Kb Kc Kd Ke Kg Kh Ki Kj Kk Kl Km Kn Ko Kp Kq Kr Ks Kt Ku Kv Kw Kx Ky Kz Ma : HV} (h : J2 k y31 y53 S = some p) : HRun Tryz.prog base W0 β0 74 none [.inRegion r24 [23,24],.code c25] ⟨[Ga,Gb,Gc,Gd,Ge,Gf,Gg,Gh,Gi,Gj,Gk,Gl,Gm,Gn,Go,Gp,Gq,Gr,Gs,Gt,Gu,Gv,Gw,Gx,Gy,Gz,Ka,Kb,Kc,Kd,Ke,(.int .i64 y31),Kg,Kh,Ki,Kj,Kk,Kl,Km,Kn,Ko,Kp,Kq,Kr,Ks,Kt,Ku,Kv,Kw,Kx,Ky,Kz,Ma,(.bool y53)],[]⟩ S (fun v S1 => v = (.tup [(.int .i64 p.1.1),(.bool p.1.2)]) ∧ S1 = p.2) := by
 unfold J2 at h
 refine qS 4 rfl (oA · rfl) ?_
 try dsimp only [w0,w1,w2,w3]
 refine qS 5 rfl (oA · rfl) (rE ?_)
 try dsimp only [w0,w1,w2,w3]
 cases h
 exact q_ret rfl at_.at_ rfl (res2 rfl rfl rfl) ⟨rfl,rfl⟩
def J1 (k : Nat) (y31 : Int) (y35 : Bool) (y52 : Bool) (S : HS) : Option ((Int × Bool) × HS) :=
 (if y35 = true then
 J2 k y31 y52 S else
 J2 k y31 false S)
theorem J1_snd {k : Nat}  {y31 : Int} {y35 : Bool} {y52 : Bool} {S : HS} {p : (Int × Bool) × HS} {Ga Gb Gc Gd Ge Gf Gg Gh Gi Gj Gk Gl Gm Gn Go Gp Gq Gr Gs Gt Gu Gv Gw Gx Gy Gz Ka Kb Kc Kd Ke Kg Kh Ki Kk Kl Km Kn Ko Kp Kq Kr Ks Kt Ku Kv Kw Kx Ky Kz Mb : HV} (h : J1 k y31 y35 y52 S = some p) : HRun Tryz.prog base W0 β0 74 none [.inRegion r24 [22,23,24],.code c25] ⟨[Ga,Gb,Gc,Gd,Ge,Gf,Gg,Gh,Gi,Gj,Gk,Gl,Gm,Gn,Go,Gp,Gq,Gr,Gs,Gt,Gu,Gv,Gw,Gx,Gy,Gz,Ka,Kb,Kc,Kd,Ke,(.int .i64 y31),Kg,Kh,Ki,(.bool y35),Kk,Kl,Km,Kn,Ko,Kp,Kq,Kr,Ks,Kt,Ku,Kv,Kw,Kx,Ky,Kz,(.bool y52),Mb],[]⟩ S (fun v S1 => v = (.tup [(.int .i64 p.1.1),(.bool p.1.2)]) ∧ S1 = p.2) := by
 unfold J1 at h
 rcases ifc h with ⟨hc10,h⟩ | ⟨hc10,h⟩
 ·refine qS 53 rfl (ok_pick_tt · (.tmp rfl) hc10 (.tmp rfl)) ?_
  try dsimp only [w0,w1,w2,w3]
  exact J2_snd  h
 ·refine qS 53 rfl (ok_pick_ff · (.tmp rfl) (bfalse hc10) (.bool _)) ?_
  try dsimp only [w0,w1,w2,w3]
  exact J2_snd  h
def J3 (k : Nat) (y31 : Int) (y35 : Bool) (y42 : Bool) (y51 : Bool) (S : HS) : Option ((Int × Bool) × HS) :=
 (if y35 = true then
 (if y42 = true then
 J1 k y31 y35 true S else
 J1 k y31 y35 y51 S) else
 J2 k y31 false S)
theorem J3_snd {k : Nat}  {y31 : Int} {y35 : Bool} {y42 : Bool} {y51 : Bool} {S : HS} {p : (Int × Bool) × HS} {Ga Gb Gc Gd Ge Gf Gg Gh Gi Gj Gk Gl Gm Gn Go Gp Gq Gr Gs Gt Gu Gv Gw Gx Gy Gz Ka Kb Kc Kd Ke Kg Kh Ki Kk Kl Km Kn Ko Kp Kr Ks Kt Ku Kv Kw Kx Ky Ma Mb : HV} (h : J3 k y31 y35 y42 y51 S = some p) : HRun Tryz.prog base W0 β0 74 none [.inRegion r24 [21,22,23,24],.code c25] ⟨[Ga,Gb,Gc,Gd,Ge,Gf,Gg,Gh,Gi,Gj,Gk,Gl,Gm,Gn,Go,Gp,Gq,Gr,Gs,Gt,Gu,Gv,Gw,Gx,Gy,Gz,Ka,Kb,Kc,Kd,Ke,(.int .i64 y31),Kg,Kh,Ki,(.bool y35),Kk,Kl,Km,Kn,Ko,Kp,(.bool y42),Kr,Ks,Kt,Ku,Kv,Kw,Kx,Ky,(.bool y51),Ma,Mb],[]⟩ S (fun v S1 => v = (.tup [(.int .i64 p.1.1),(.bool p.1.2)]) ∧ S1 = p.2) := by
 unfold J3 at h
 rcases ifc h with ⟨hc16,h⟩ | ⟨hc16,h⟩
 ·rcases ifc h with ⟨hc17,h⟩ | ⟨hc17,h⟩
  ·refine qG 35 52 rfl hc16 (ok_pick_tt · (.tmp rfl) hc17 (.bool _)) ?_
   try dsimp only [w0,w1,w2,w3]
   exact J1_snd  h
  ·refine qG 35 52 rfl hc16 (ok_pick_ff · (.tmp rfl) (bfalse hc17) (.tmp rfl)) ?_
   try dsimp only [w0,w1,w2,w3]
   exact J1_snd  h
 ·refine q_skip (dst := some 52) (t := 35) rfl rfl rfl (bfalse hc16) (qS 53 rfl (ok_pick_ff · (.tmp rfl) (bfalse hc16) (.bool _)) ?_)
  try dsimp only [w0,w1,w2,w3]
  exact J2_snd  h
def L0 (k : Nat) : Nat → Sl → Int → Int → Int → Int → HS → Option ((Int × Bool) × HS)
 | 0,_,_,_,_,_,_ => none
 | n + 1,y0,y1,y6,y7,y8,S =>
  (if y7 < y8 then
  (Option.bind (HS.idx S y0 (w64 (Int.fdiv (IntKind.wrap .u64 (w64 (y7 + y8))) (2 ^ (min (Int.toNat 1) (IntKind.bits .u64))))) 1) fun p2 =>
  (Option.bind (HS.ldI S .i64 p2) fun p3 =>
  (Option.bind (cmp_Less_int.f p3 y1) fun p4 =>
  (if p4 = true then
  (L0 k n) y0 y1 y6 (w64 ((w64 (Int.fdiv (IntKind.wrap .u64 (w64 (y7 + y8))) (2 ^ (min (Int.toNat 1) (IntKind.bits .u64))))) + 1)) y8 S else
  (L0 k n) y0 y1 y6 y7 (w64 (Int.fdiv (IntKind.wrap .u64 (w64 (y7 + y8))) (2 ^ (min (Int.toNat 1) (IntKind.bits .u64))))) S)))) else
  (if y7 < y6 then
  (Option.bind (HS.idx S y0 y7 1) fun p7 =>
  (Option.bind (HS.ldI S .i64 p7) fun p8 =>
  (if p8 = y1 then
  J1 k y7 (decide (y7 < y6)) true S else
  (Option.bind (HS.idx S y0 y7 1) fun p11 =>
  (Option.bind (HS.ldI S .i64 p11) fun p12 =>
  (Option.bind (slices_isNaN_int.f p12) fun p13 =>
  (if p13 = true then
  (Option.bind (slices_isNaN_int.f y1) fun p15 =>
  J3 k y7 (decide (y7 < y6)) (decide (p8 = y1)) p15 S) else
  J3 k y7 (decide (y7 < y6)) (decide (p8 = y1)) false S))))))) else
  J2 k y7 false S))
theorem L0_snd {k : Nat}  : ∀ {n : Nat} ⦃y0 : Sl⦄ ⦃y1 : Int⦄ ⦃y6 : Int⦄ ⦃y7 : Int⦄ ⦃y8 : Int⦄ ⦃S : HS⦄ ⦃p : (Int × Bool) × HS⦄ ⦃Gc Gd Ge Gf Gj Gk Gl Gm Gn Go Gp Gq Gr Gs Gt Gu Gv Gw Gx Gy Gz Ka Kb Kc Kd Ke Kf Kg Kh Ki Kj Kk Kl Km Kn Ko Kp Kq Kr Ks Kt Ku Kv Kw Kx Ky Kz Ma Mb : HV⦄,L0 k n y0 y1 y6 y7 y8 S = some p → HRun Tryz.prog base W0 β0 74 none [.inLoop c9,.inBlock 0,.code c23] ⟨[(Sl.hv y0),(.int .i64 y1),Gc,Gd,Ge,Gf,(.int .i64 y6),(.int .i64 y7),(.int .i64 y8),Gj,Gk,Gl,Gm,Gn,Go,Gp,Gq,Gr,Gs,Gt,Gu,Gv,Gw,Gx,Gy,Gz,Ka,Kb,Kc,Kd,Ke,Kf,Kg,Kh,Ki,Kj,Kk,Kl,Km,Kn,Ko,Kp,Kq,Kr,Ks,Kt,Ku,Kv,Kw,Kx,Ky,Kz,Ma,Mb],[]⟩ S (fun v S1 => v = (.tup [(.int .i64 p.1.1),(.bool p.1.2)]) ∧ S1 = p.2) := by
 intro n
 induction n with
 | zero => intro _ _ _ _ _ _ _ _ _ _ _ _ _ _ _ _ _ _ _ _ _ _ _ _ _ _ _ _ _ _ _ _ _ _ _ _ _ _ _ _ _ _ _ _ _ _ _ _ _ _ _ _ _ _ _ _ h; cases h
 | succ n ih =>
  intro y0 y1 y6 y7 y8 S p Gc Gd Ge Gf Gj Gk Gl Gm Gn Go Gp Gq Gr Gs Gt Gu Gv Gw Gx Gy Gz Ka Kb Kc Kd Ke Kf Kg Kh Ki Kj Kk Kl Km Kn Ko Kp Kq Kr Ks Kt Ku Kv Kw Kx Ky Kz Ma Mb h
  simp only [L0] at h
  refine hr_inLoop (qQ rfl (qQ rfl (qR rfl rfl (qS 13 rfl (oM · rfl) (qS 14 rfl (oM · rfl) (qS 15 rfl (oB · rfl rfl rfl) (rE ?_)))))))
  try dsimp only [w0,w1,w2,w3]
  rcases ifc h with ⟨hc1,h⟩ | ⟨hc1,h⟩
  ·refine q_cond_t rfl (.tmp rfl) (decide_eq_true hc1) (q_skipc rfl (q_block rfl (qQ rfl (qR rfl rfl (qS 16 rfl (oM · rfl) (qS 17 rfl (oM · rfl) (qS 18 rfl (oB · rfl rfl rfl) (qS 19 rfl (ok_conv_int · tu3 tu120 (.tmp rfl)) ?_))))))))
   try dsimp only [w0,w1,w2,w3]
   refine qS 20 rfl (ok_shr · (.tmp rfl) (.int _ _) (by decide)) (qS 21 rfl (ok_conv_int · tu120 tu3 (.tmp rfl)) (qS 9 rfl (oA · rfl) (rE ?_)))
   try dsimp only [w0,w1,w2,w3]
   obtain ⟨p2,hp2,h⟩ := bindo h
   obtain ⟨p3,hp3,h⟩ := bindo h
   refine qQ rfl (qR rfl rfl (qS 22 rfl (oM · rfl) (qS 23 rfl (oM · rfl) (qS 24 rfl (oX (s := y0) · tu41 sz3 rfl rfl hp2) (qS 25 rfl (oL · sc3 rfl rfl (ldI_out hp3)) ?_)))))
   try dsimp only [w0,w1,w2,w3]
   obtain ⟨p4,hp4,h⟩ := bindo h
   refine qS 26 rfl (oM · rfl) (q_call (dst := some 27) rfl (.func _) (.cons (.tmp rfl) (.cons (.tmp rfl) Evs.nil)) (HInv.static cmp_Less_int.at_ cmp_Less_int.body (cmp_Less_int.snd  hp4)) ?_)
   rintro _ _ ⟨rfl,rfl⟩
   refine rE ?_
   try dsimp only [w0,w1,w2,w3]
   rcases ifc h with ⟨hc5,h⟩ | ⟨hc5,h⟩
   ·refine q_cond_t rfl (.tmp rfl) hc5 (qR rfl rfl (qS 28 rfl (oM · rfl) (qS 29 rfl (oC · rfl rfl) (qS 7 rfl (oA · rfl) (rE ?_)))))
    try dsimp only [w0,w1,w2,w3]
    refine hr_inBlock ?_
    try dsimp only [w0,w1,w2,w3]
    exact ih h
   ·refine q_cond_f rfl (.tmp rfl) (bfalse hc5) (qR rfl rfl (qS 30 rfl (oM · rfl) (qS 8 rfl (oA · rfl) (rE ?_))))
    try dsimp only [w0,w1,w2,w3]
    refine hr_inBlock ?_
    try dsimp only [w0,w1,w2,w3]
    exact ih h
  ·refine q_cond_f rfl (.tmp rfl) (decide_eq_false hc1) (q_exit rfl rfl (qQ rfl (qR rfl rfl (qS 31 rfl (oM · rfl) (qS 32 rfl (oM · rfl) (qS 33 rfl (oM · rfl) (qS 34 rfl (oB · rfl rfl rfl) ?_)))))))
   try dsimp only [w0,w1,w2,w3]
   refine qS 35 rfl (oM · rfl) ?_
   rcases ifc h with ⟨hc6,h⟩ | ⟨hc6,h⟩
   ·obtain ⟨p7,hp7,h⟩ := bindo h
    refine qG 35 36 rfl (decide_eq_true hc6) (oM · rfl) (qG 35 37 rfl (decide_eq_true hc6) (oM · rfl) (qG 35 38 rfl (decide_eq_true hc6) (oX (s := y0) · tu41 sz3 rfl rfl hp7) ?_))
    try dsimp only [w0,w1,w2,w3]
    obtain ⟨p8,hp8,h⟩ := bindo h
    refine qG 35 39 rfl (decide_eq_true hc6) (oL · sc3 rfl rfl (ldI_out hp8)) (qG 35 40 rfl (decide_eq_true hc6) (oM · rfl) (qG 35 41 rfl (decide_eq_true hc6) (oB · rfl rfl rfl) (qG 35 42 rfl (decide_eq_true hc6) (oM · rfl) ?_)))
    try dsimp only [w0,w1,w2,w3]
    rcases ifc h with ⟨hc9,h⟩ | ⟨hc9,h⟩
    ·refine q_skip (dst := some 43) (t := 42) rfl rfl rfl (decide_eq_true hc9) (q_skip (dst := some 44) (t := 42) rfl rfl rfl (decide_eq_true hc9) (q_skip (dst := some 45) (t := 42) rfl rfl rfl (decide_eq_true hc9) (q_skip (dst := some 46) (t := 42) rfl rfl rfl (decide_eq_true hc9) ?_)))
     try dsimp only [w0,w1,w2,w3]
     refine q_skip (dst := some 47) (t := 42) rfl rfl rfl (decide_eq_true hc9) (q_skip (dst := some 48) (t := 42) rfl rfl rfl (decide_eq_true hc9) (q_skip_u (dst := some 49) (t := 48) rfl rfl rfl (q_skip_u (dst := some 50) (t := 48) rfl rfl rfl ?_)))
     try dsimp only [w0,w1,w2,w3]
     refine q_skip (dst := some 51) (t := 42) rfl rfl rfl (decide_eq_true hc9) (qG 35 52 rfl (decide_eq_true hc6) (ok_pick_tt · (.tmp rfl) (decide_eq_true hc9) (.bool _)) ?_)
     try dsimp only [w0,w1,w2,w3]
     exact J1_snd  h
    ·obtain ⟨p11,hp11,h⟩ := bindo h
     obtain ⟨p12,hp12,h⟩ := bindo h
     refine qG 42 43 rfl (decide_eq_false hc9) (oM · rfl) (qG 42 44 rfl (decide_eq_false hc9) (oM · rfl) (qG 42 45 rfl (decide_eq_false hc9) (oX (s := y0) · tu41 sz3 rfl rfl hp11) (qG 42 46 rfl (decide_eq_false hc9) (oL · sc3 rfl rfl (ldI_out hp12)) ?_)))
     try dsimp only [w0,w1,w2,w3]
     obtain ⟨p13,hp13,h⟩ := bindo h
     refine q_call_g (t := 42) (dst := some 47) rfl rfl rfl (decide_eq_false hc9) (.func _) (.cons (.tmp rfl) Evs.nil) (HInv.static slices_isNaN_int.at_ slices_isNaN_int.body (slices_isNaN_int.snd  hp13)) ?_
     rintro _ _ ⟨rfl,rfl⟩
     refine qG 42 48 rfl (decide_eq_false hc9) (oM · rfl) ?_
     rcases ifc h with ⟨hc14,h⟩ | ⟨hc14,h⟩
     ·obtain ⟨p15,hp15,h⟩ := bindo h
      refine qG 48 49 rfl hc14 (oM · rfl) (q_call_g (t := 48) (dst := some 50) rfl rfl rfl hc14 (.func _) (.cons (.tmp rfl) Evs.nil) (HInv.static slices_isNaN_int.at_ slices_isNaN_int.body (slices_isNaN_int.snd  hp15)) ?_)
      rintro _ _ ⟨rfl,rfl⟩
      try dsimp only [w0,w1,w2,w3]
      refine qG 42 51 rfl (decide_eq_false hc9) (ok_pick_tt · (.tmp rfl) hc14 (.tmp rfl)) ?_
      try dsimp only [w0,w1,w2,w3]
      exact J3_snd  h
     ·refine q_skip (dst := some 49) (t := 48) rfl rfl rfl (bfalse hc14) (q_skip (dst := some 50) (t := 48) rfl rfl rfl (bfalse hc14) ?_)
      try dsimp only [w0,w1,w2,w3]
      refine qG 42 51 rfl (decide_eq_false hc9) (ok_pick_ff · (.tmp rfl) (bfalse hc14) (.bool _)) ?_
      try dsimp only [w0,w1,w2,w3]
      exact J3_snd  h
   ·refine q_skip (dst := some 36) (t := 35) rfl rfl rfl (decide_eq_false hc6) (q_skip (dst := some 37) (t := 35) rfl rfl rfl (decide_eq_false hc6) (q_skip (dst := some 38) (t := 35) rfl rfl rfl (decide_eq_false hc6) ?_))
    try dsimp only [w0,w1,w2,w3]
    refine q_skip (dst := some 39) (t := 35) rfl rfl rfl (decide_eq_false hc6) (q_skip (dst := some 40) (t := 35) rfl rfl rfl (decide_eq_false hc6) (q_skip (dst := some 41) (t := 35) rfl rfl rfl (decide_eq_false hc6) (q_skip (dst := some 42) (t := 35) rfl rfl rfl (decide_eq_false hc6) ?_)))
    try dsimp only [w0,w1,w2,w3]
    refine q_skip_u (dst := some 43) (t := 42) rfl rfl rfl (q_skip_u (dst := some 44) (t := 42) rfl rfl rfl (q_skip_u (dst := some 45) (t := 42) rfl rfl rfl (q_skip_u (dst := some 46) (t := 42) rfl rfl rfl ?_)))
    try dsimp only [w0,w1,w2,w3]
    refine q_skip_u (dst := some 47) (t := 42) rfl rfl rfl (q_skip_u (dst := some 48) (t := 42) rfl rfl rfl (q_skip_u (dst := some 49) (t := 48) rfl rfl rfl (q_skip_u (dst := some 50) (t := 48) rfl rfl rfl ?_)))
    try dsimp only [w0,w1,w2,w3]
    refine q_skip_u (dst := some 51) (t := 42) rfl rfl rfl (q_skip (dst := some 52) (t := 35) rfl rfl rfl (decide_eq_false hc6) (qS 53 rfl (ok_pick_ff · (.tmp rfl) (decide_eq_false hc6) (.bool _)) ?_))
    try dsimp only [w0,w1,w2,w3]
    exact J2_snd  h
def f (k : Nat) (x0 : Sl) (x1 : Int) (S : HS) : Option ((Int × Bool) × HS) :=
 L0 k k x0 x1 (Sl.len x0 : Int) 0 (Sl.len x0 : Int) S
theorem snd {k : Nat} {x0 : Sl} {x1 : Int} {S : HS}  {p : (Int × Bool) × HS} (h : f k x0 x1 S = some p) : HCall Tryz.prog base W0 β0 74 [(Sl.hv x0),(.int .i64 x1)] S (fun v S1 => v = (.tup [(.int .i64 p.1.1),(.bool p.1.2)]) ∧ S1 = p.2) := by
 unfold f at h
 refine HCall.of_run at_.at_ body ?_
 show HRun Tryz.prog base W0 β0 74 none [.code c0] ⟨[(Sl.hv x0),(.int .i64 x1),τ,τ,τ,τ,τ,τ,τ,τ,τ,τ,τ,τ,τ,τ,τ,τ,τ,τ,τ,τ,τ,τ,τ,τ,τ,τ,τ,τ,τ,τ,τ,τ,τ,τ,τ,τ,τ,τ,τ,τ,τ,τ,τ,τ,τ,τ,τ,τ,τ,τ,τ,τ],[]⟩ S _
 refine qQ rfl (qR rfl rfl (qS 4 rfl (ok_assign · (.int _ _)) (qS 5 rfl (ok_assign · (.bool _)) (rE ?_))))
 try dsimp only [w0,w1,w2,w3]
 refine qQ rfl (qR rfl rfl (qS 10 rfl (oM · rfl) (qS 11 rfl (ok_len_sl (q := Sl.a x0) (n := Sl.len x0) (z := Sl.cap x0) · rfl tu41 (.tmp rfl)) (qS 6 rfl (oA · rfl) (rE ?_)))))
 try dsimp only [w0,w1,w2,w3]
 refine qQ rfl (qR rfl rfl (qS 12 rfl (oM · rfl) (qS 7 rfl (ok_assign · (.int _ _)) (qS 8 rfl (oA · rfl) (rE ?_)))))
 try dsimp only [w0,w1,w2,w3]
 refine qQ rfl (q_block rfl (q_loop rfl ?_))
 try dsimp only [w0,w1,w2,w3]
 exact L0_snd  h
end
end slices_BinarySearch_int_int
end Go.Proofs.YtcphapfclncggaaGreatDoor.X
