/- Functions of the program, each as a Lean function over the layer HL: a call answers what the Lean function answers, where it answers. Functions of the program, each as a Lean function over the layer HL: a call answers what the Lean function answers, where it answers. Sets, what is common to all. Sets of int, plain. -/
import Derived.Test.YtcphapfclncggaaGreatDoorProg
import Derived.Test.YtcphapfclncggaaGreatDoorPart11
namespace Go.Proofs.YtcphapfclncggaaGreatDoor.X
open Go.Proofs.YtcphapfclncggaaGreatDoor.HL
set_option linter.unusedVariables false
set_option linter.unusedSimpArgs false
set_option maxRecDepth 20000
set_option maxHeartbeats 4000000
namespace set_Set_string_Add
theorem at_ : FnAt Tryz.prog 61 Tryz.f61 := ⟨Tryz.func61,by kernel_rfl⟩
noncomputable def d0 := (Tryz.f61.body).getD .skip
noncomputable def r1 := kR (kA d0)
noncomputable def r3 := kR (kA (kB d0))
noncomputable def r6 := kR (kA (kA (kB (kB d0))))
noncomputable def r9 := kR (kA (kA (kB (kA (kB (kB d0))))))
noncomputable def d12 := kB (kB (kB d0))
noncomputable def r14 := kR (kA (kA d12))
noncomputable def d16 := kA (kB (kA d12))
noncomputable def r18 := kR (kA (kA d16))
noncomputable def d23 := kB (kB (kA d16))
noncomputable def r26 := kR (kA (kA (kA d23)))
noncomputable def d27 := kB (kA (kA d23))
noncomputable def r28 := kR (kA d27)
noncomputable def r30 := kR (kA (kB d27))
noncomputable def r33 := kR (kA (kA (kB (kB d27))))
noncomputable def r34 := kR (kB (kA (kB (kB d27))))
noncomputable def r36 := kR (kB d23)
noncomputable def r38 := kR (kA (kB d12))
noncomputable def c37 : Code := .seq (.region 12 r38 false) .ret
noncomputable def c36 : Code := .region 11 r36 false
noncomputable def c17 : Code := .seq (.region 5 r18 false) (.seq (.cond (.tmp 15) .skip (.exit 0)) (.seq (.block 1 (.seq (.region 6 r26 false) (.seq (.region 7 r28 false) (.seq (.region 8 r30 false) (.cond (.tmp 28) (.seq (.region 9 r33 false) (.region 10 r34 false)) .skip))))) c36))
noncomputable def c0 : Code := .seq (.region 0 r1 false) (.seq (.region 1 r3 false) (.seq (.seq (.region 2 r6 false) (.cond (.tmp 11) (.seq (.region 3 r9 false) .ret) .skip)) (.seq (.seq (.region 4 r14 false) (.block 0 (.loop c17))) c37)))
theorem body : Tryz.f61.body = some c0 := by kernel_rfl
section
variable {base : Nat} {W0 : World} {β0 : Bt}
def J1 (k : Nat) (rec0 : (Option HA) → Int → Sl → Int → Int → HS → Option ((Int) × HS)) (y0 : (Option HA)) (y5 : Int) (y12 : Sl) (y13 : Int) (y14 : Int) (S : HS) : Option ((Int) × HS) :=
 rec0 y0 y5 y12 y13 (w64 (y14 + 1)) S
theorem J1_snd {k : Nat} {rec0 : (Option HA) → Int → Sl → Int → Int → HS → Option ((Int) × HS)} (hrec0 : ∀ ⦃y0 : (Option HA)⦄ ⦃y5 : Int⦄ ⦃y12 : Sl⦄ ⦃y13 : Int⦄ ⦃y14 : Int⦄ ⦃S : HS⦄ ⦃p : (Int) × HS⦄ ⦃Gb Gc Gd Ge Gg Gh Gi Gj Gk Gl Gp Gq Gr Gs Gt Gu Gv Gw Gx Gy Gz Ka Kb Kc Kd Ke Kf Kg Kh Ki Kj Kk Kl Km Kn Ko Kp Kq Kr : HV⦄,rec0 y0 y5 y12 y13 y14 S = some p → HRun Tryz.prog base W0 β0 61 none [.inLoop c17,.inBlock 0,.code c37] ⟨[(.ptr y0),Gb,Gc,Gd,Ge,(.int .i64 y5),Gg,Gh,Gi,Gj,Gk,Gl,(Sl.hv y12),(.int .i64 y13),(.int .i64 y14),Gp,Gq,Gr,Gs,Gt,Gu,Gv,Gw,Gx,Gy,Gz,Ka,Kb,Kc,Kd,Ke,Kf,Kg,Kh,Ki,Kj,Kk,Kl,Km,Kn,Ko,Kp,Kq,Kr],[]⟩ S (fun v S1 => v = (.int .i64 p.1) ∧ S1 = p.2)) {y0 : (Option HA)} {y5 : Int} {y12 : Sl} {y13 : Int} {y14 : Int} {S : HS} {p : (Int) × HS} {Gb Gc Gd Ge Gg Gh Gi Gj Gk Gl Gp Gq Gr Gs Gt Gu Gv Gw Gx Gy Gz Ka Kb Kc Kd Ke Kf Kg Kh Ki Kj Kk Kl Km Kn Ko Kp Kq Kr : HV} (h : J1 k rec0 y0 y5 y12 y13 y14 S = some p) : HRun Tryz.prog base W0 β0 61 none [.code c36,.inLoop c17,.inBlock 0,.code c37] ⟨[(.ptr y0),Gb,Gc,Gd,Ge,(.int .i64 y5),Gg,Gh,Gi,Gj,Gk,Gl,(Sl.hv y12),(.int .i64 y13),(.int .i64 y14),Gp,Gq,Gr,Gs,Gt,Gu,Gv,Gw,Gx,Gy,Gz,Ka,Kb,Kc,Kd,Ke,Kf,Kg,Kh,Ki,Kj,Kk,Kl,Km,Kn,Ko,Kp,Kq,Kr],[]⟩ S (fun v S1 => v = (.int .i64 p.1) ∧ S1 = p.2) := by
 unfold J1 at h
 refine qR rfl rfl (qS 42 rfl (oC · rfl rfl) (qS 14 rfl (oM · rfl) (rE ?_)))
 try dsimp only [w0,w1,w2,w3]
 try dsimp only [w0,w1,w2,w3]
 exact hrec0 h
def L0 (k : Nat) : Nat → (Option HA) → Int → Sl → Int → Int → HS → Option ((Int) × HS)
 | 0,_,_,_,_,_,_ => none
 | n + 1,y0,y5,y12,y13,y14,S =>
  (if y14 < y13 then
  (Option.bind (HS.idx S y12 y14 1) fun p3 =>
  (Option.bind (HS.ldS S p3) fun p4 =>
  (Option.bind (y0) fun p5 =>
  (Option.bind (HS.ldSl S (HA.fld p5 0)) fun p6 =>
  (Option.bind (slices_BinarySearch_string_string.f k p6 p4 S) fun p7 =>
  (if (!p7.1.2) = true then
  (Option.bind (y0) fun p9 =>
  (Option.bind (HS.ldSl p7.2 (HA.fld p9 0)) fun p10 =>
  (letv (HS.lit p7.2 [[(.str p4)]] 1) fun p11 =>
  (Option.bind (slices_Insert_string_string_w.f p10 p7.1.1 (p11.1) (p11.2)) fun p12 =>
  (Option.bind (y0) fun p13 =>
  (Option.bind (HS.sets p12.2 (HA.fld p13 0) [(Sl.hv p12.1)]) fun p14 =>
  J1 k (L0 k n) y0 (w64 (y5 + 1)) y12 y13 y14 p14)))))) else
  J1 k (L0 k n) y0 y5 y12 y13 y14 p7.2)))))) else
  some (y5,S))
theorem L0_snd {k : Nat}  : ∀ {n : Nat} ⦃y0 : (Option HA)⦄ ⦃y5 : Int⦄ ⦃y12 : Sl⦄ ⦃y13 : Int⦄ ⦃y14 : Int⦄ ⦃S : HS⦄ ⦃p : (Int) × HS⦄ ⦃Gb Gc Gd Ge Gg Gh Gi Gj Gk Gl Gp Gq Gr Gs Gt Gu Gv Gw Gx Gy Gz Ka Kb Kc Kd Ke Kf Kg Kh Ki Kj Kk Kl Km Kn Ko Kp Kq Kr : HV⦄,L0 k n y0 y5 y12 y13 y14 S = some p → HRun Tryz.prog base W0 β0 61 none [.inLoop c17,.inBlock 0,.code c37] ⟨[(.ptr y0),Gb,Gc,Gd,Ge,(.int .i64 y5),Gg,Gh,Gi,Gj,Gk,Gl,(Sl.hv y12),(.int .i64 y13),(.int .i64 y14),Gp,Gq,Gr,Gs,Gt,Gu,Gv,Gw,Gx,Gy,Gz,Ka,Kb,Kc,Kd,Ke,Kf,Kg,Kh,Ki,Kj,Kk,Kl,Km,Kn,Ko,Kp,Kq,Kr],[]⟩ S (fun v S1 => v = (.int .i64 p.1) ∧ S1 = p.2) := by
 intro n
 induction n with
 | zero => intro _ _ _ _ _ _ _ _ _ _ _ _ _ _ _ _ _ _ _ _ _ _ _ _ _ _ _ _ _ _ _ _ _ _ _ _ _ _ _ _ _ _ _ _ _ _ h; cases h
 | succ n ih =>
  intro y0 y5 y12 y13 y14 S p Gb Gc Gd Ge Gg Gh Gi Gj Gk Gl Gp Gq Gr Gs Gt Gu Gv Gw Gx Gy Gz Ka Kb Kc Kd Ke Kf Kg Kh Ki Kj Kk Kl Km Kn Ko Kp Kq Kr h
  simp only [L0] at h
  refine hr_inLoop (qQ rfl (qR rfl rfl (qS 15 rfl (oB · rfl rfl rfl) (rE ?_))))
  try dsimp only [w0,w1,w2,w3]
  refine qQ rfl ?_
  rcases ifc h with ⟨hc2,h⟩ | ⟨hc2,h⟩
  ·obtain ⟨p3,hp3,h⟩ := bindo h
   obtain ⟨p4,hp4,h⟩ := bindo h
   refine q_cond_t rfl (.tmp rfl) (decide_eq_true hc2) (q_skipc rfl (qQ rfl (q_block rfl (qQ rfl (qR rfl rfl (qS 16 rfl (oX (s := y12) · tu38 sz9 rfl rfl hp3) (qS 17 rfl (oL · sc9 rfl rfl (ldS_out hp4)) (qS 7 rfl (oA · rfl) (rE ?_)))))))))
   try dsimp only [w0,w1,w2,w3]
   obtain ⟨p5,hp5,h⟩ := bindo h
   obtain ⟨p6,hp6,h⟩ := bindo h
   refine qQ rfl (qR rfl rfl (qS 19 rfl (oM · rfl) (qS 20 rfl (oN · rfl hp5) (qS 21 rfl (oF · fi103_0 (by decide) rfl rfl) (qS 22 rfl (oL · sc38 rfl rfl (ldSl_out hp6)) ?_)))))
   try dsimp only [w0,w1,w2,w3]
   obtain ⟨p7,hp7,h⟩ := bindo h
   refine qS 23 rfl (oM · rfl) (q_call (dst := some 24) rfl (.func _) (.cons (.tmp rfl) (.cons (.tmp rfl) Evs.nil)) (HInv.static slices_BinarySearch_string_string.at_ slices_BinarySearch_string_string.body (slices_BinarySearch_string_string.snd  hp7)) ?_)
   rintro _ _ ⟨rfl,rfl⟩
   refine qS 18 rfl (oM · rfl) (qS 25 rfl (ok_extract · (.tmp rfl) rfl) ?_)
   try dsimp only [w0,w1,w2,w3]
   refine qS 26 rfl (ok_extract · (.tmp rfl) rfl) (qS 8 rfl (oA · rfl) (qS 9 rfl (oA · rfl) (rE ?_)))
   try dsimp only [w0,w1,w2,w3]
   refine qQ rfl (qR rfl rfl (qS 27 rfl (oM · rfl) (qS 28 rfl (ok_not · (.tmp rfl)) (rE ?_))))
   try dsimp only [w0,w1,w2,w3]
   rcases ifc h with ⟨hc8,h⟩ | ⟨hc8,h⟩
   ·obtain ⟨p9,hp9,h⟩ := bindo h
    refine q_cond_t rfl (.tmp rfl) hc8 (qQ rfl (qR rfl rfl (qS 29 rfl (oM · rfl) (qS 30 rfl (oM · rfl) (qS 31 rfl (oN · rfl hp9) (qS 32 rfl (oF · fi103_0 (by decide) rfl rfl) ?_))))))
    try dsimp only [w0,w1,w2,w3]
    obtain ⟨p10,hp10,h⟩ := bindo h
    obtain ⟨p11,hp11,h⟩ := leto h
    refine qS 33 rfl (oL · sc38 rfl rfl (ldSl_out hp10)) (qS 34 rfl (oM · rfl) (qS 35 rfl (oM · rfl) (qS 36 rfl (ok_buildSlice_s (xs := [(.tmp 35)]) el38 · rfl rfl (by decide) (.cons (.tmp rfl) Evs.nil) rfl rfl hp11) ?_)))
    try dsimp only [w0,w1,w2,w3]
    obtain ⟨p12,hp12,h⟩ := bindo h
    refine q_call (dst := some 37) rfl (.func _) (.cons (.tmp rfl) (.cons (.tmp rfl) (.cons (.tmp rfl) Evs.nil))) (HInv.static slices_Insert_string_string_w.at_ slices_Insert_string_string_w.body (slices_Insert_string_string_w.snd  hp12)) ?_
    rintro _ _ ⟨rfl,rfl⟩
    obtain ⟨p13,hp13,h⟩ := bindo h
    obtain ⟨p14,hp14,h⟩ := bindo h
    refine qS 38 rfl (oN · rfl hp13) (qS 39 rfl (oF · fi103_0 (by decide) rfl rfl) (qN rfl (ok_store_s (v := (Sl.hv p12.1)) · sz38 (.tmp rfl) rfl (.tmp rfl) rfl hp14) (rE ?_)))
    try dsimp only [w0,w1,w2,w3]
    refine qR rfl rfl (qS 40 rfl (oM · rfl) (qS 41 rfl (oC · rfl rfl) (qS 5 rfl (oA · rfl) (rE ?_))))
    try dsimp only [w0,w1,w2,w3]
    refine hr_inBlock ?_
    try dsimp only [w0,w1,w2,w3]
    exact J1_snd ih h
   ·refine q_cond_f rfl (.tmp rfl) (bfalse hc8) (q_skipc rfl (hr_inBlock ?_))
    try dsimp only [w0,w1,w2,w3]
    exact J1_snd ih h
  ·refine q_cond_f rfl (.tmp rfl) (decide_eq_false hc2) (q_exit rfl rfl (qQ rfl (qR rfl rfl (qS 43 rfl (oM · rfl) (qS 4 rfl (oA · rfl) (rE ?_))))))
   try dsimp only [w0,w1,w2,w3]
   cases h
   exact q_ret rfl at_.at_ rfl (res1 rfl rfl) ⟨rfl,rfl⟩
def f (k : Nat) (x0 : (Option HA)) (x1 : Sl) (S : HS) : Option ((Int) × HS) :=
 (if (Option.isNone x0) = true then
 some (0,S) else
 L0 k k x0 0 x1 (Sl.len x1 : Int) 0 S)
theorem snd {k : Nat} {x0 : (Option HA)} {x1 : Sl} {S : HS}  {p : (Int) × HS} (h : f k x0 x1 S = some p) : HCall Tryz.prog base W0 β0 61 [(.ptr x0),(Sl.hv x1)] S (fun v S1 => v = (.int .i64 p.1) ∧ S1 = p.2) := by
 unfold f at h
 refine HCall.of_run at_.at_ body ?_
 show HRun Tryz.prog base W0 β0 61 none [.code c0] ⟨[(.ptr x0),(Sl.hv x1),τ,τ,τ,τ,τ,τ,τ,τ,τ,τ,τ,τ,τ,τ,τ,τ,τ,τ,τ,τ,τ,τ,τ,τ,τ,τ,τ,τ,τ,τ,τ,τ,τ,τ,τ,τ,τ,τ,τ,τ,τ,τ],[]⟩ S _
 refine qQ rfl (qR rfl rfl (qS 4 rfl (ok_assign · (.int _ _)) (rE ?_)))
 try dsimp only [w0,w1,w2,w3]
 refine qQ rfl (qR rfl rfl (qS 5 rfl (ok_assign · (.int _ _)) (rE ?_)))
 try dsimp only [w0,w1,w2,w3]
 refine qQ rfl (qQ rfl (qR rfl rfl (qS 10 rfl (oM · rfl) (qS 11 rfl (ok_nil_ptr · tu87 (.tmp rfl) (.inl ⟨rfl,rfl⟩)) (rE ?_)))))
 try dsimp only [w0,w1,w2,w3]
 rcases ifc h with ⟨hc1,h⟩ | ⟨hc1,h⟩
 ·refine q_cond_t rfl (.tmp rfl) hc1 (qQ rfl (qR rfl rfl (qS 4 rfl (ok_assign · (.int _ _)) (rE ?_))))
  try dsimp only [w0,w1,w2,w3]
  cases h
  exact q_ret rfl at_.at_ rfl (res1 rfl rfl) ⟨rfl,rfl⟩
 ·refine q_cond_f rfl (.tmp rfl) (bfalse hc1) (q_skipc rfl (qQ rfl (qQ rfl (qR rfl rfl (qS 12 rfl (oM · rfl) (qS 13 rfl (ok_len_sl (q := Sl.a x1) (n := Sl.len x1) (z := Sl.cap x1) · rfl tu38 (.tmp rfl)) (qS 14 rfl (ok_move · (.int _ _)) (rE ?_))))))))
  try dsimp only [w0,w1,w2,w3]
  refine q_block rfl (q_loop rfl ?_)
  try dsimp only [w0,w1,w2,w3]
  exact L0_snd  h
end
end set_Set_string_Add
namespace set_Of_string
theorem at_ : FnAt Tryz.prog 60 Tryz.f60 := ⟨Tryz.func60,by kernel_rfl⟩
noncomputable def d0 := (Tryz.f60.body).getD .skip
noncomputable def r1 := kR (kA d0)
noncomputable def r3 := kR (kA (kB d0))
noncomputable def r5 := kR (kA (kB (kB d0)))
noncomputable def r7 := kR (kA (kB (kB (kB d0))))
noncomputable def c0 : Code := .seq (.region 0 r1 false) (.seq (.region 1 r3 false) (.seq (.region 2 r5 false) (.seq (.region 3 r7 false) .ret)))
theorem body : Tryz.f60.body = some c0 := by kernel_rfl
section
variable {base : Nat} {W0 : World} {β0 : Bt}
def f (k : Nat) (x0 : Sl) (S : HS) : Option (((Option HA)) × HS) :=
 (letv (HS.new S (.cells 1 [[(Sl.hv Sl.nil)]] true)) fun p1 =>
 (Option.bind (set_Set_string_Add.f k (some (HA.cell0 S.next)) x0 p1) fun p2 =>
 some ((some (HA.cell0 S.next)),p2.2)))
theorem snd {k : Nat} {x0 : Sl} {S : HS}  {p : ((Option HA)) × HS} (h : f k x0 S = some p) : HCall Tryz.prog base W0 β0 60 [(Sl.hv x0)] S (fun v S1 => v = (.ptr p.1) ∧ S1 = p.2) := by
 unfold f at h
 refine HCall.of_run at_.at_ body ?_
 show HRun Tryz.prog base W0 β0 60 none [.code c0] ⟨[(Sl.hv x0),τ,τ,τ,τ,τ,τ,τ,τ,τ],[]⟩ S _
 refine qQ rfl (qR rfl rfl (qS 2 rfl (ok_assign · (.const fun _ => .ptrNil)) (rE ?_)))
 try dsimp only [w0,w1,w2,w3]
 obtain ⟨p1,hp1,h⟩ := leto h
 refine qQ rfl (qR rfl rfl (qS 4 rfl (ok_build (is := []) (xs := []) (r := [(Sl.hv Sl.nil)]) st103 · rfl rfl Evs.nil rfl) (qS 5 rfl (ok_box_e · (.tmp rfl) (Nat.zero_lt_succ _) rfl hp1) (qS 3 rfl (oA · rfl) (rE ?_)))))
 try dsimp only [w0,w1,w2,w3]
 obtain ⟨p2,hp2,h⟩ := bindo h
 refine qQ rfl (qR rfl rfl (qS 6 rfl (oM · rfl) (qS 7 rfl (oM · rfl) (q_call (dst := some 8) rfl (.func _) (.cons (.tmp rfl) (.cons (.tmp rfl) Evs.nil)) (HInv.static set_Set_string_Add.at_ set_Set_string_Add.body (set_Set_string_Add.snd  hp2)) ?_))))
 rintro _ _ ⟨rfl,rfl⟩
 refine rE ?_
 try dsimp only [w0,w1,w2,w3]
 refine qQ rfl (qR rfl rfl (qS 9 rfl (oM · rfl) (qS 2 rfl (oA · rfl) (rE ?_))))
 try dsimp only [w0,w1,w2,w3]
 cases h
 exact q_ret rfl at_.at_ rfl (res1 rfl rfl) ⟨rfl,rfl⟩
end
end set_Of_string
namespace pair_put_int_string
theorem at_ : FnAt Tryz.prog 43 Tryz.f43 := ⟨Tryz.func43,by kernel_rfl⟩
noncomputable def d0 := (Tryz.f43.body).getD .skip
noncomputable def r2 := kR (kA (kA d0))
noncomputable def r4 := kR (kA (kB (kA d0)))
noncomputable def r6 := kR (kB d0)
noncomputable def c6 : Code := .region 2 r6 false
noncomputable def c0 : Code := .seq (.seq (.region 0 r2 false) (.cond (.tmp 9) (.region 1 r4 false) .skip)) c6
theorem body : Tryz.f43.body = some c0 := by kernel_rfl
section
variable {base : Nat} {W0 : World} {β0 : Bt}
def J0 (k : Nat) (y0 : (Option Nat)) (y1 : Int) (y2 : (List UInt8)) (S : HS) : Option ((Unit) × HS) :=
 (Option.bind (HS.look S y0 (.int .i64 y1)) fun p6 =>
 (Option.bind (dP (Option.getD p6 (.ptr none))) fun p7 =>
 (letv (HS.lit S [[(.str y2)]] 1) fun p8 =>
 (Option.bind (set_Set_string_Add.f k p7 (p8.1) (p8.2)) fun p9 =>
 some ((),p9.2)))))
theorem J0_snd {k : Nat}  {y0 : (Option Nat)} {y1 : Int} {y2 : (List UInt8)} {S : HS} {p : (Unit) × HS} {Gd Ge Gf Gg Gh Gi Gj Gk Gl Gm Gn Go Gp Gq Gr Gs : HV} (h : J0 k y0 y1 y2 S = some p) : HRun Tryz.prog base W0 β0 43 none [.code c6] ⟨[(.map y0),(.int .i64 y1),(.str y2),Gd,Ge,Gf,Gg,Gh,Gi,Gj,Gk,Gl,Gm,Gn,Go,Gp,Gq,Gr,Gs],[]⟩ S (fun v S1 => v = (.tup []) ∧ S1 = p.2) := by
 unfold J0 at h
 obtain ⟨p6,hp6,h⟩ := bindo h
 obtain ⟨p7,hp7,h⟩ := bindo h
 refine qR rfl rfl (qS 13 rfl (oM · rfl) (qS 14 rfl (oM · rfl) (qS 15 rfl (ok_lookup · tu78 zi87 (fun β => .ptrNil) (keyInt tu3) (.tmp rfl) (.tmp rfl) hp6 (dP_out hp7)) (qS 16 rfl (oM · rfl) ?_))))
 try dsimp only [w0,w1,w2,w3]
 obtain ⟨p8,hp8,h⟩ := leto h
 obtain ⟨p9,hp9,h⟩ := bindo h
 refine qS 17 rfl (ok_buildSlice_s (xs := [(.tmp 16)]) el38 · rfl rfl (by decide) (.cons (.tmp rfl) Evs.nil) rfl rfl hp8) (q_call (dst := some 18) rfl (.func _) (.cons (.tmp rfl) (.cons (.tmp rfl) Evs.nil)) (HInv.static set_Set_string_Add.at_ set_Set_string_Add.body (set_Set_string_Add.snd  hp9)) ?_)
 rintro _ _ ⟨rfl,rfl⟩
 refine rE ?_
 try dsimp only [w0,w1,w2,w3]
 cases h
 exact q_end at_.at_ rfl (res0 rfl) ⟨rfl,rfl⟩
def f (k : Nat) (x0 : (Option Nat)) (x1 : Int) (x2 : (List UInt8)) (S : HS) : Option ((Unit) × HS) :=
 (Option.bind (HS.look S x0 (.int .i64 x1)) fun p1 =>
 (Option.bind (dP (Option.getD p1 (.ptr none))) fun p2 =>
 (if (Option.isNone p2) = true then
 (Option.bind (set_Of_string.f k Sl.nil S) fun p4 =>
 (Option.bind (HS.mput p4.2 x0 (.int .i64 x1) (.ptr p4.1)) fun p5 =>
 J0 k x0 x1 x2 p5)) else
 J0 k x0 x1 x2 S)))
theorem snd {k : Nat} {x0 : (Option Nat)} {x1 : Int} {x2 : (List UInt8)} {S : HS}  {p : (Unit) × HS} (h : f k x0 x1 x2 S = some p) : HCall Tryz.prog base W0 β0 43 [(.map x0),(.int .i64 x1),(.str x2)] S (fun v S1 => v = (.tup []) ∧ S1 = p.2) := by
 unfold f at h
 refine HCall.of_run at_.at_ body ?_
 show HRun Tryz.prog base W0 β0 43 none [.code c0] ⟨[(.map x0),(.int .i64 x1),(.str x2),τ,τ,τ,τ,τ,τ,τ,τ,τ,τ,τ,τ,τ,τ,τ,τ],[]⟩ S _
 obtain ⟨p1,hp1,h⟩ := bindo h
 obtain ⟨p2,hp2,h⟩ := bindo h
 refine qQ rfl (qQ rfl (qR rfl rfl (qS 6 rfl (oM · rfl) (qS 7 rfl (oM · rfl) (qS 8 rfl (ok_lookup · tu78 zi87 (fun β => .ptrNil) (keyInt tu3) (.tmp rfl) (.tmp rfl) hp1 (dP_out hp2)) (qS 9 rfl (ok_nil_ptr · tu87 (.tmp rfl) (.inl ⟨rfl,rfl⟩)) (rE ?_)))))))
 try dsimp only [w0,w1,w2,w3]
 rcases ifc h with ⟨hc3,h⟩ | ⟨hc3,h⟩
 ·obtain ⟨p4,hp4,h⟩ := bindo h
  refine q_cond_t rfl (.tmp rfl) hc3 (qR rfl rfl (qS 10 rfl (oM · rfl) (qS 11 rfl (oM · rfl) (q_call (dst := some 12) rfl (.func _) (.cons (.const fun _ => .slNil none) Evs.nil) (HInv.static set_Of_string.at_ set_Of_string.body (set_Of_string.snd  hp4)) ?_))))
  rintro _ _ ⟨rfl,rfl⟩
  obtain ⟨p5,hp5,h⟩ := bindo h
  refine qN rfl (ok_mapUpdate · tu78 (keyInt tu3) (.tmp rfl) (.tmp rfl) (.tmp rfl) hp5) (rE ?_)
  try dsimp only [w0,w1,w2,w3]
  try dsimp only [w0,w1,w2,w3]
  exact J0_snd  h
 ·refine q_cond_f rfl (.tmp rfl) (bfalse hc3) (q_skipc rfl ?_)
  try dsimp only [w0,w1,w2,w3]
  exact J0_snd  h
end
end pair_put_int_string
namespace slices_Reverse_int_int
theorem at_ : FnAt Tryz.prog 111 Tryz.f111 := ⟨Tryz.func111,by kernel_rfl⟩
noncomputable def d0 := (Tryz.f111.body).getD .skip
noncomputable def r1 := kR (kA d0)
noncomputable def r6 := kR (kA (kA (kA (kA (kB d0)))))
noncomputable def r12 := kR (kA (kA (kB (kA (kA (kB d0))))))
noncomputable def r13 := kR (kB (kB (kA (kA (kB d0)))))
noncomputable def c4 : Code := .seq (.seq (.region 1 r6 false) (.cond (.tmp 9) .skip (.exit 0))) (.seq (.block 1 (.region 3 r12 true)) (.region 2 r13 false))
noncomputable def c0 : Code := .seq (.region 0 r1 false) (.block 0 (.loop c4))
theorem body : Tryz.f111.body = some c0 := by kernel_rfl
section
variable {base : Nat} {W0 : World} {β0 : Bt}
def L0 (k : Nat) : Nat → Sl → Int → Int → HS → Option ((Unit) × HS)
 | 0,_,_,_,_ => none
 | n + 1,y0,y2,y3,S =>
  (if y2 < y3 then
  (Option.bind (HS.idx S y0 y3 1) fun p2 =>
  (Option.bind (HS.ldI S .i64 p2) fun p3 =>
  (Option.bind (HS.idx S y0 y2 1) fun p4 =>
  (Option.bind (HS.ldI S .i64 p4) fun p5 =>
  (Option.bind (HS.idx S y0 y2 1) fun p6 =>
  (Option.bind (HS.sets S p6 [(.int .i64 p3)]) fun p7 =>
  (Option.bind (HS.idx p7 y0 y3 1) fun p8 =>
  (Option.bind (HS.sets p7 p8 [(.int .i64 p5)]) fun p9 =>
  (L0 k n) y0 (w64 (y2 + 1)) (w64 (y3 - 1)) p9)))))))) else
  some ((),S))
theorem L0_snd {k : Nat}  : ∀ {n : Nat} ⦃y0 : Sl⦄ ⦃y2 : Int⦄ ⦃y3 : Int⦄ ⦃S : HS⦄ ⦃p : (Unit) × HS⦄ ⦃Gb Ge Gf Gg Gh Gi Gj Gk Gl Gm Gn Go Gp Gq Gr Gs Gt Gu Gv Gw Gx Gy Gz Ka Kb : HV⦄,L0 k n y0 y2 y3 S = some p → HRun Tryz.prog base W0 β0 111 none [.inLoop c4,.inBlock 0] ⟨[(Sl.hv y0),Gb,(.int .i64 y2),(.int .i64 y3),Ge,Gf,Gg,Gh,Gi,Gj,Gk,Gl,Gm,Gn,Go,Gp,Gq,Gr,Gs,Gt,Gu,Gv,Gw,Gx,Gy,Gz,Ka,Kb],[]⟩ S (fun v S1 => v = (.tup []) ∧ S1 = p.2) := by
 intro n
 induction n with
 | zero => intro _ _ _ _ _ _ _ _ _ _ _ _ _ _ _ _ _ _ _ _ _ _ _ _ _ _ _ _ _ _ h; cases h
 | succ n ih =>
  intro y0 y2 y3 S p Gb Ge Gf Gg Gh Gi Gj Gk Gl Gm Gn Go Gp Gq Gr Gs Gt Gu Gv Gw Gx Gy Gz Ka Kb h
  simp only [L0] at h
  refine hr_inLoop (qQ rfl (qQ rfl (qR rfl rfl (qS 7 rfl (oM · rfl) (qS 8 rfl (oM · rfl) (qS 9 rfl (oB · rfl rfl rfl) (rE ?_)))))))
  try dsimp only [w0,w1,w2,w3]
  rcases ifc h with ⟨hc1,h⟩ | ⟨hc1,h⟩
  ·refine q_cond_t rfl (.tmp rfl) (decide_eq_true hc1) (q_skipc rfl (qQ rfl (q_block rfl ?_)))
   refine x_start (cls := [0,0,0,0,0,0,1,1,0,0,1,1,1,2,1,2]) (rk := [0,1,12,13,2,3,4,5,6,7,8,9,10,11,14,15]) rfl (by kernel_rfl) ?_
   refine yf 14 [0] rfl (oM · rfl) ?_
   refine yf 15 [2] rfl (oM · rfl) ?_
   refine yf 16 [0] rfl (oM · rfl) ?_
   refine yf 17 [3] rfl (oM · rfl) ?_
   try dsimp only [w0,w1,w2,w3]
   refine yf 18 [0] rfl (oM · rfl) ?_
   refine yf 19 [3] rfl (oM · rfl) ?_
   obtain ⟨p2,hp2,h⟩ := bindo h
   refine yr 20 [18,19] rfl (oX (s := y0) · tu41 sz3 rfl rfl hp2) ?_
   obtain ⟨p3,hp3,h⟩ := bindo h
   refine yr 21 [20] rfl (oL · sc3 rfl rfl (ldI_out hp3)) ?_
   try dsimp only [w0,w1,w2,w3]
   refine yf 22 [0] rfl (oM · rfl) ?_
   refine yf 23 [2] rfl (oM · rfl) ?_
   obtain ⟨p4,hp4,h⟩ := bindo h
   refine yr 24 [22,23] rfl (oX (s := y0) · tu41 sz3 rfl rfl hp4) ?_
   obtain ⟨p5,hp5,h⟩ := bindo h
   refine yr 25 [24] rfl (oL · sc3 rfl rfl (ldI_out hp5)) ?_
   try dsimp only [w0,w1,w2,w3]
   obtain ⟨p6,hp6,h⟩ := bindo h
   refine yr 26 [14,15] rfl (oX (s := y0) · tu41 sz3 rfl rfl hp6) ?_
   obtain ⟨p7,hp7,h⟩ := bindo h
   refine x_go (e_op (dst := none) (ts := [26,21]) rfl (by intro _ _ h; cases h) (by kernel_rfl) (fun _ ho => ok_store_s (v := (.int .i64 p3)) ho sz3 (.tmp rfl) rfl (.tmp rfl) rfl hp7)) rfl ?_
   obtain ⟨p8,hp8,h⟩ := bindo h
   refine yr 27 [16,17] rfl (oX (s := y0) · tu41 sz3 rfl rfl hp8) ?_
   obtain ⟨p9,hp9,h⟩ := bindo h
   refine x_go (e_op (dst := none) (ts := [27,25]) rfl (by intro _ _ h; cases h) (by kernel_rfl) (fun _ ho => ok_store_s (v := (.int .i64 p5)) ho sz3 (.tmp rfl) rfl (.tmp rfl) rfl hp9)) rfl ?_
   refine x_rest rfl ?_
   refine rE ?_
   try dsimp only [w0,w1,w2,w3]
   refine hr_inBlock (qR rfl rfl (qS 10 rfl (oM · rfl) (qS 11 rfl (oC · rfl rfl) (qS 12 rfl (oM · rfl) (qS 13 rfl (oC · rfl rfl) ?_)))))
   try dsimp only [w0,w1,w2,w3]
   refine qS 2 rfl (oA · rfl) (qS 3 rfl (oA · rfl) (rE ?_))
   try dsimp only [w0,w1,w2,w3]
   try dsimp only [w0,w1,w2,w3]
   exact ih h
  ·cases h
   exact q_cond_f rfl (.tmp rfl) (decide_eq_false hc1) (q_exit rfl rfl (q_end at_.at_ rfl (res0 rfl) ⟨rfl,rfl⟩))
def f (k : Nat) (x0 : Sl) (S : HS) : Option ((Unit) × HS) :=
 L0 k k x0 0 (w64 ((Sl.len x0 : Int) - 1)) S
theorem snd {k : Nat} {x0 : Sl} {S : HS}  {p : (Unit) × HS} (h : f k x0 S = some p) : HCall Tryz.prog base W0 β0 111 [(Sl.hv x0)] S (fun v S1 => v = (.tup []) ∧ S1 = p.2) := by
 unfold f at h
 refine HCall.of_run at_.at_ body ?_
 show HRun Tryz.prog base W0 β0 111 none [.code c0] ⟨[(Sl.hv x0),τ,τ,τ,τ,τ,τ,τ,τ,τ,τ,τ,τ,τ,τ,τ,τ,τ,τ,τ,τ,τ,τ,τ,τ,τ,τ,τ],[]⟩ S _
 refine qQ rfl (qR rfl rfl (qS 4 rfl (oM · rfl) (qS 5 rfl (ok_len_sl (q := Sl.a x0) (n := Sl.len x0) (z := Sl.cap x0) · rfl tu41 (.tmp rfl)) (qS 6 rfl (oC · rfl rfl) (qS 2 rfl (ok_assign · (.int _ _)) ?_)))))
 try dsimp only [w0,w1,w2,w3]
 refine qS 3 rfl (oA · rfl) (rE ?_)
 try dsimp only [w0,w1,w2,w3]
 refine q_block rfl (q_loop rfl ?_)
 try dsimp only [w0,w1,w2,w3]
 exact L0_snd  h
end
end slices_Reverse_int_int
namespace slices_rotateLeft_int
theorem at_ : FnAt Tryz.prog 108 Tryz.f108 := ⟨Tryz.func108,by kernel_rfl⟩
noncomputable def d0 := (Tryz.f108.body).getD .skip
noncomputable def r1 := kR (kA d0)
noncomputable def r3 := kR (kA (kB d0))
noncomputable def r4 := kR (kB (kB d0))
noncomputable def c0 : Code := .seq (.region 0 r1 false) (.seq (.region 1 r3 false) (.region 2 r4 false))
theorem body : Tryz.f108.body = some c0 := by kernel_rfl
section
variable {base : Nat} {W0 : World} {β0 : Bt}
def f (k : Nat) (x0 : Sl) (x1 : Int) (S : HS) : Option ((Unit) × HS) :=
 (Option.bind (HS.cut S x0 0 x1 1) fun p1 =>
 (Option.bind (slices_Reverse_int_int.f k p1 S) fun p2 =>
 (Option.bind (HS.cut p2.2 x0 x1 (Sl.len x0 : Int) 1) fun p3 =>
 (Option.bind (slices_Reverse_int_int.f k p3 p2.2) fun p4 =>
 (Option.bind (slices_Reverse_int_int.f k x0 p4.2) fun p5 =>
 some ((),p5.2))))))
theorem snd {k : Nat} {x0 : Sl} {x1 : Int} {S : HS}  {p : (Unit) × HS} (h : f k x0 x1 S = some p) : HCall Tryz.prog base W0 β0 108 [(Sl.hv x0),(.int .i64 x1)] S (fun v S1 => v = (.tup []) ∧ S1 = p.2) := by
 unfold f at h
 refine HCall.of_run at_.at_ body ?_
 show HRun Tryz.prog base W0 β0 108 none [.code c0] ⟨[(Sl.hv x0),(.int .i64 x1),τ,τ,τ,τ,τ,τ,τ,τ,τ,τ,τ,τ],[]⟩ S _
 obtain ⟨p1,hp1,h⟩ := bindo h
 obtain ⟨p2,hp2,h⟩ := bindo h
 refine qQ rfl (qR rfl rfl (qS 4 rfl (oM · rfl) (qS 5 rfl (oM · rfl) (qS 6 rfl (ok_slice (kl := .i64) (kh := .i64) (s := x0) (l := 0) (h := x1) · tu41 si3 (.tmp rfl) (.inl ⟨rfl,rfl⟩) (.inr ⟨_,rfl,(.tmp rfl)⟩) hp1) (q_call (dst := some 7) rfl (.func _) (.cons (.tmp rfl) Evs.nil) (HInv.static slices_Reverse_int_int.at_ slices_Reverse_int_int.body (slices_Reverse_int_int.snd  hp2)) ?_)))))
 rintro _ _ ⟨rfl,rfl⟩
 refine rE ?_
 try dsimp only [w0,w1,w2,w3]
 obtain ⟨p3,hp3,h⟩ := bindo h
 obtain ⟨p4,hp4,h⟩ := bindo h
 refine qQ rfl (qR rfl rfl (qS 8 rfl (oM · rfl) (qS 9 rfl (oM · rfl) (qS 10 rfl (ok_slice (kl := .i64) (kh := .i64) (s := x0) (l := x1) (h := (Sl.len x0 : Int)) · tu41 si3 (.tmp rfl) (.inr ⟨_,rfl,(.tmp rfl)⟩) (.inl ⟨rfl,rfl⟩) hp3) (q_call (dst := some 11) rfl (.func _) (.cons (.tmp rfl) Evs.nil) (HInv.static slices_Reverse_int_int.at_ slices_Reverse_int_int.body (slices_Reverse_int_int.snd  hp4)) ?_)))))
 rintro _ _ ⟨rfl,rfl⟩
 refine rE ?_
 try dsimp only [w0,w1,w2,w3]
 obtain ⟨p5,hp5,h⟩ := bindo h
 refine qR rfl rfl (qS 12 rfl (oM · rfl) (q_call (dst := some 13) rfl (.func _) (.cons (.tmp rfl) Evs.nil) (HInv.static slices_Reverse_int_int.at_ slices_Reverse_int_int.body (slices_Reverse_int_int.snd  hp5)) ?_))
 rintro _ _ ⟨rfl,rfl⟩
 refine rE ?_
 try dsimp only [w0,w1,w2,w3]
 cases h
 exact q_end at_.at_ rfl (res0 rfl) ⟨rfl,rfl⟩
end
end slices_rotateLeft_int
namespace slices_rotateRight_int
theorem at_ : FnAt Tryz.prog 98 Tryz.f98 := ⟨Tryz.func98,by kernel_rfl⟩
noncomputable def d0 := (Tryz.f98.body).getD .skip
noncomputable def r0 := kR d0
noncomputable def c0 : Code := .region 0 r0 false
theorem body : Tryz.f98.body = some c0 := by kernel_rfl
section
variable {base : Nat} {W0 : World} {β0 : Bt}
def f (k : Nat) (x0 : Sl) (x1 : Int) (S : HS) : Option ((Unit) × HS) :=
 (Option.bind (slices_rotateLeft_int.f k x0 (w64 ((Sl.len x0 : Int) - x1)) S) fun p1 =>
 some ((),p1.2))
theorem snd {k : Nat} {x0 : Sl} {x1 : Int} {S : HS}  {p : (Unit) × HS} (h : f k x0 x1 S = some p) : HCall Tryz.prog base W0 β0 98 [(Sl.hv x0),(.int .i64 x1)] S (fun v S1 => v = (.tup []) ∧ S1 = p.2) := by
 unfold f at h
 refine HCall.of_run at_.at_ body ?_
 show HRun Tryz.prog base W0 β0 98 none [.code c0] ⟨[(Sl.hv x0),(.int .i64 x1),τ,τ,τ,τ,τ,τ,τ,τ],[]⟩ S _
 refine qR rfl rfl (qS 4 rfl (oM · rfl) (qS 5 rfl (oM · rfl) (qS 6 rfl (ok_len_sl (q := Sl.a x0) (n := Sl.len x0) (z := Sl.cap x0) · rfl tu41 (.tmp rfl)) (qS 7 rfl (oM · rfl) ?_))))
 try dsimp only [w0,w1,w2,w3]
 obtain ⟨p1,hp1,h⟩ := bindo h
 refine qS 8 rfl (oB · rfl rfl rfl) (q_call (dst := some 9) rfl (.func _) (.cons (.tmp rfl) (.cons (.tmp rfl) Evs.nil)) (HInv.static slices_rotateLeft_int.at_ slices_rotateLeft_int.body (slices_rotateLeft_int.snd  hp1)) ?_)
 rintro _ _ ⟨rfl,rfl⟩
 refine rE ?_
 try dsimp only [w0,w1,w2,w3]
 cases h
 exact q_end at_.at_ rfl (res0 rfl) ⟨rfl,rfl⟩
end
end slices_rotateRight_int
namespace slices_Insert_int_int
theorem at_ : FnAt Tryz.prog 79 Tryz.f79 := ⟨Tryz.func79,by kernel_rfl⟩
noncomputable def d0 := (Tryz.f79.body).getD .skip
noncomputable def r1 := kR (kA d0)
noncomputable def r3 := kR (kA (kB d0))
noncomputable def r5 := kR (kA (kB (kB d0)))
noncomputable def d6 := kB (kB (kB d0))
noncomputable def r8 := kR (kA (kA d6))
noncomputable def r11 := kR (kA (kA (kB (kA d6))))
noncomputable def r15 := kR (kA (kB d6))
noncomputable def r18 := kR (kA (kA (kB (kB d6))))
noncomputable def r21 := kR (kA (kA (kB (kA (kB (kB d6))))))
noncomputable def d24 := kB (kB (kB d6))
noncomputable def r26 := kR (kA (kA d24))
noncomputable def d28 := kA (kB (kA d24))
noncomputable def r29 := kR (kA d28)
noncomputable def r31 := kR (kA (kB d28))
noncomputable def r33 := kR (kA (kB (kB d28)))
noncomputable def r35 := kR (kA (kB (kB (kB d28))))
noncomputable def r39 := kR (kA (kB d24))
noncomputable def d41 := kA (kB (kB d24))
noncomputable def r42 := kR (kA d41)
noncomputable def r45 := kR (kA (kA (kB d41)))
noncomputable def r47 := kR (kA (kB (kA (kB d41))))
noncomputable def r49 := kR (kA (kB (kB (kA (kB d41)))))
noncomputable def r53 := kR (kA (kB (kB (kB d24))))
noncomputable def r55 := kR (kA (kB (kB (kB (kB d24)))))
noncomputable def r57 := kR (kA (kB (kB (kB (kB (kB d24))))))
noncomputable def c0 : Code := .seq (.region 0 r1 false) (.seq (.region 1 r3 false) (.seq (.region 2 r5 false) (.seq (.seq (.region 3 r8 false) (.cond (.tmp 16) (.seq (.region 4 r11 false) .ret) .skip)) (.seq (.region 5 r15 false) (.seq (.seq (.region 6 r18 false) (.cond (.tmp 22) (.seq (.region 7 r21 false) .ret) .skip)) (.seq (.seq (.region 8 r26 false) (.cond (.tmp 31) (.seq (.region 9 r29 false) (.seq (.region 10 r31 false) (.seq (.region 11 r33 true) (.seq (.region 12 r35 false) .ret)))) .skip)) (.seq (.region 13 r39 false) (.seq (.seq (.region 14 r42 false) (.cond (.tmp 68) (.seq (.region 15 r45 true) (.seq (.region 16 r47 false) (.seq (.region 17 r49 false) .ret))) .skip)) (.seq (.region 18 r53 false) (.seq (.region 19 r55 false) (.seq (.region 20 r57 false) .ret)))))))))))
theorem body : Tryz.f79.body = some c0 := by kernel_rfl
section
variable {base : Nat} {W0 : World} {β0 : Bt}
def f (k : Nat) (x0 : Sl) (x1 : Int) (x2 : Sl) (S : HS) : Option ((Sl) × HS) :=
 (Option.bind (HS.cut S x0 x1 (Sl.len x0 : Int) 1) fun p1 =>
 (if (Sl.len x2 : Int) = 0 then
 some (x0,S) else
 (if x1 = (Sl.len x0 : Int) then
 (Option.bind (HS.rows S x2 1) fun p4 =>
 (Option.bind (HS.app S x0 p4 1) fun p5 =>
 some ((p5.1),(p5.2)))) else
 (Option.bind (Sl.capOf x0) fun p6 =>
 (if (w64 ((Sl.len x0 : Int) + (Sl.len x2 : Int))) > p6 then
 (Option.bind (HS.cut S x0 0 x1 1) fun p8 =>
 (Option.bind (HS.appZ S p8 (w64 ((w64 ((Sl.len x0 : Int) + (Sl.len x2 : Int))) - x1)) [(.int .i64 0)] 1) fun p9 =>
 (Option.bind (HS.cut (p9.2) (p9.1) x1 (Sl.len (p9.1) : Int) 1) fun p10 =>
 (Option.bind (HS.rows (p9.2) x2 1) fun p11 =>
 (Option.bind (HS.over (p9.2) p10 (List.take (Sl.len p10) p11) 1) fun p12 =>
 (Option.bind (HS.cut p12 (p9.1) (w64 (x1 + (Sl.len x2 : Int))) (Sl.len (p9.1) : Int) 1) fun p13 =>
 (Option.bind (HS.cut p12 x0 x1 (Sl.len x0 : Int) 1) fun p14 =>
 (Option.bind (HS.rows p12 p14 1) fun p15 =>
 (Option.bind (HS.over p12 p13 (List.take (Sl.len p13) p15) 1) fun p16 =>
 some ((p9.1),p16)))))))))) else
 (Option.bind (HS.cut S x0 0 (w64 ((Sl.len x0 : Int) + (Sl.len x2 : Int))) 1) fun p17 =>
 (Option.bind (HS.cut S p17 (w64 (x1 + (Sl.len x2 : Int))) (Sl.len p17 : Int) 1) fun p18 =>
 (Option.bind (HS.ovl S x2 p18) fun p19 =>
 (if (!p19) = true then
 (Option.bind (HS.cut S p17 (w64 (x1 + (Sl.len x2 : Int))) (Sl.len p17 : Int) 1) fun p21 =>
 (Option.bind (HS.cut S p17 x1 (Sl.len p17 : Int) 1) fun p22 =>
 (Option.bind (HS.rows S p22 1) fun p23 =>
 (Option.bind (HS.over S p21 (List.take (Sl.len p21) p23) 1) fun p24 =>
 (Option.bind (HS.cut p24 p17 x1 (Sl.len p17 : Int) 1) fun p25 =>
 (Option.bind (HS.rows p24 x2 1) fun p26 =>
 (Option.bind (HS.over p24 p25 (List.take (Sl.len p25) p26) 1) fun p27 =>
 some (p17,p27)))))))) else
 (Option.bind (HS.cut S p17 (Sl.len x0 : Int) (Sl.len p17 : Int) 1) fun p28 =>
 (Option.bind (HS.rows S x2 1) fun p29 =>
 (Option.bind (HS.over S p28 (List.take (Sl.len p28) p29) 1) fun p30 =>
 (Option.bind (HS.cut p30 p17 x1 (Sl.len p17 : Int) 1) fun p31 =>
 (Option.bind (slices_rotateRight_int.f k p31 (Sl.len x2 : Int) p30) fun p32 =>
 some (p17,p32.2)))))))))))))))
theorem snd {k : Nat} {x0 : Sl} {x1 : Int} {x2 : Sl} {S : HS}  {p : (Sl) × HS} (h : f k x0 x1 x2 S = some p) : HCall Tryz.prog base W0 β0 79 [(Sl.hv x0),(.int .i64 x1),(Sl.hv x2)] S (fun v S1 => v = (Sl.hv p.1) ∧ S1 = p.2) := by
 unfold f at h
 refine HCall.of_run at_.at_ body ?_
 show HRun Tryz.prog base W0 β0 79 none [.code c0] ⟨[(Sl.hv x0),(.int .i64 x1),(Sl.hv x2),τ,τ,τ,τ,τ,τ,τ,τ,τ,τ,τ,τ,τ,τ,τ,τ,τ,τ,τ,τ,τ,τ,τ,τ,τ,τ,τ,τ,τ,τ,τ,τ,τ,τ,τ,τ,τ,τ,τ,τ,τ,τ,τ,τ,τ,τ,τ,τ,τ,τ,τ,τ,τ,τ,τ,τ,τ,τ,τ,τ,τ,τ,τ,τ,τ,τ,τ,τ,τ,τ,τ,τ,τ,τ,τ,τ,τ,τ,τ,τ,τ,τ,τ,τ,τ,τ,τ,τ,τ,τ,τ,τ],[]⟩ S _
 refine qQ rfl (qR rfl rfl (qS 6 rfl (ok_assign · (.const fun _ => .slNil none)) (rE ?_)))
 try dsimp only [w0,w1,w2,w3]
 obtain ⟨p1,hp1,h⟩ := bindo h
 refine qQ rfl (qR rfl rfl (qS 10 rfl (oM · rfl) (qS 11 rfl (oM · rfl) (qS 12 rfl (ok_slice (kl := .i64) (kh := .i64) (s := x0) (l := x1) (h := (Sl.len x0 : Int)) · tu41 si3 (.tmp rfl) (.inr ⟨_,rfl,(.tmp rfl)⟩) (.inl ⟨rfl,rfl⟩) hp1) (rE ?_)))))
 try dsimp only [w0,w1,w2,w3]
 refine qQ rfl (qR rfl rfl (qS 13 rfl (oM · rfl) (qS 14 rfl (ok_len_sl (q := Sl.a x2) (n := Sl.len x2) (z := Sl.cap x2) · rfl tu41 (.tmp rfl)) (qS 7 rfl (oA · rfl) (rE ?_)))))
 try dsimp only [w0,w1,w2,w3]
 refine qQ rfl (qQ rfl (qR rfl rfl (qS 15 rfl (oM · rfl) (qS 16 rfl (oC · rfl rfl) (rE ?_)))))
 try dsimp only [w0,w1,w2,w3]
 rcases ifc h with ⟨hc2,h⟩ | ⟨hc2,h⟩
 ·refine q_cond_t rfl (.tmp rfl) (decide_eq_true hc2) (qQ rfl (qR rfl rfl (qS 17 rfl (oM · rfl) (qS 6 rfl (oA · rfl) (rE ?_)))))
  try dsimp only [w0,w1,w2,w3]
  cases h
  exact q_ret rfl at_.at_ rfl (res1 rfl rfl) ⟨rfl,rfl⟩
 ·refine q_cond_f rfl (.tmp rfl) (decide_eq_false hc2) (q_skipc rfl (qQ rfl (qR rfl rfl (qS 18 rfl (oM · rfl) (qS 19 rfl (ok_len_sl (q := Sl.a x0) (n := Sl.len x0) (z := Sl.cap x0) · rfl tu41 (.tmp rfl)) (qS 8 rfl (oA · rfl) (rE ?_)))))))
  try dsimp only [w0,w1,w2,w3]
  refine qQ rfl (qQ rfl (qR rfl rfl (qS 20 rfl (oM · rfl) (qS 21 rfl (oM · rfl) (qS 22 rfl (oB · rfl rfl rfl) (rE ?_))))))
  try dsimp only [w0,w1,w2,w3]
  rcases ifc h with ⟨hc3,h⟩ | ⟨hc3,h⟩
  ·obtain ⟨p4,hp4,h⟩ := bindo h
   obtain ⟨p5,hp5,h⟩ := bindo h
   refine q_cond_t rfl (.tmp rfl) (decide_eq_true hc3) (qQ rfl (qR rfl rfl (qS 23 rfl (oM · rfl) (qS 24 rfl (oM · rfl) (qS 25 rfl (ok_append (s := x0) (s1 := x2) el41 · rfl rfl ⟨_,tu41⟩ (.tmp rfl) (.tmp rfl) hp4 hp5) (qS 6 rfl (oA · rfl) (rE ?_)))))))
   try dsimp only [w0,w1,w2,w3]
   cases h
   exact q_ret rfl at_.at_ rfl (res1 rfl rfl) ⟨rfl,rfl⟩
  ·refine q_cond_f rfl (.tmp rfl) (decide_eq_false hc3) (q_skipc rfl (qQ rfl (qQ rfl (qR rfl rfl (qS 26 rfl (oM · rfl) (qS 27 rfl (oM · rfl) (qS 28 rfl (oB · rfl rfl rfl) (qS 29 rfl (oM · rfl) ?_))))))))
   try dsimp only [w0,w1,w2,w3]
   obtain ⟨p6,hp6,h⟩ := bindo h
   refine qS 30 rfl (ok_cap (s := x0) · rfl tu41 (.tmp rfl) hp6) (qS 31 rfl (oB · rfl rfl rfl) (rE ?_))
   try dsimp only [w0,w1,w2,w3]
   rcases ifc h with ⟨hc7,h⟩ | ⟨hc7,h⟩
   ·obtain ⟨p8,hp8,h⟩ := bindo h
    refine q_cond_t rfl (.tmp rfl) (decide_eq_true hc7) (qQ rfl (qR rfl rfl (qS 32 rfl (oM · rfl) (qS 33 rfl (oM · rfl) (qS 34 rfl (ok_slice (kl := .i64) (kh := .i64) (s := x0) (l := 0) (h := x1) · tu41 si3 (.tmp rfl) (.inl ⟨rfl,rfl⟩) (.inr ⟨_,rfl,(.tmp rfl)⟩) hp8) (qS 35 rfl (oM · rfl) ?_))))))
    try dsimp only [w0,w1,w2,w3]
    refine qS 36 rfl (oM · rfl) (qS 37 rfl (oB · rfl rfl rfl) (qS 38 rfl (oM · rfl) (qS 39 rfl (oB · rfl rfl rfl) ?_)))
    try dsimp only [w0,w1,w2,w3]
    obtain ⟨p9,hp9,h⟩ := bindo h
    refine qS 40 rfl (ok_append_zeros (s := p8) el41 · rfl rfl tu3 (.tmp rfl) (.tmp rfl) hp9) (qS 9 rfl (oA · rfl) (rE ?_))
    try dsimp only [w0,w1,w2,w3]
    obtain ⟨p10,hp10,h⟩ := bindo h
    refine qQ rfl (qR rfl rfl (qS 41 rfl (oM · rfl) (qS 42 rfl (oM · rfl) (qS 43 rfl (ok_slice (kl := .i64) (kh := .i64) (s := (p9.1)) (l := x1) (h := (Sl.len (p9.1) : Int)) · tu41 si3 (.tmp rfl) (.inr ⟨_,rfl,(.tmp rfl)⟩) (.inl ⟨rfl,rfl⟩) hp10) (qS 44 rfl (oM · rfl) ?_)))))
    try dsimp only [w0,w1,w2,w3]
    obtain ⟨p11,hp11,h⟩ := bindo h
    obtain ⟨p12,hp12,h⟩ := bindo h
    refine qS 45 rfl (ok_copy (s := p10) (s1 := x2) el41 · rfl (.tmp rfl) (.tmp rfl) hp11 hp12) (rE ?_)
    try dsimp only [w0,w1,w2,w3]
    refine qQ rfl ?_
    refine x_start (cls := [0,0,0,0,1,0,0,1,2]) (rk := [0,1,2,3,4,5,6,7,8]) rfl (by kernel_rfl) ?_
    refine yf 46 [9] rfl (oM · rfl) ?_
    refine yf 47 [1] rfl (oM · rfl) ?_
    refine yf 48 [7] rfl (oM · rfl) ?_
    refine yf 49 [47,48] rfl (oB · rfl rfl rfl) ?_
    try dsimp only [w0,w1,w2,w3]
    obtain ⟨p13,hp13,h⟩ := bindo h
    refine yr 50 [46,49] rfl (ok_slice (kl := .i64) (kh := .i64) (s := (p9.1)) (l := (w64 (x1 + (Sl.len x2 : Int)))) (h := (Sl.len (p9.1) : Int)) · tu41 si3 (.tmp rfl) (.inr ⟨_,rfl,(.tmp rfl)⟩) (.inl ⟨rfl,rfl⟩) hp13) ?_
    refine yf 51 [0] rfl (oM · rfl) ?_
    refine yf 52 [1] rfl (oM · rfl) ?_
    obtain ⟨p14,hp14,h⟩ := bindo h
    refine yr 53 [51,52] rfl (ok_slice (kl := .i64) (kh := .i64) (s := x0) (l := x1) (h := (Sl.len x0 : Int)) · tu41 si3 (.tmp rfl) (.inr ⟨_,rfl,(.tmp rfl)⟩) (.inl ⟨rfl,rfl⟩) hp14) ?_
    try dsimp only [w0,w1,w2,w3]
    obtain ⟨p15,hp15,h⟩ := bindo h
    obtain ⟨p16,hp16,h⟩ := bindo h
    refine ye 54 [50,53] rfl (ok_copy (s := p13) (s1 := p14) el41 · rfl (.tmp rfl) (.tmp rfl) hp15 hp16) ?_
    refine x_rest rfl ?_
    refine rE ?_
    try dsimp only [w0,w1,w2,w3]
    refine qQ rfl (qR rfl rfl (qS 55 rfl (oM · rfl) (qS 6 rfl (oA · rfl) (rE ?_))))
    try dsimp only [w0,w1,w2,w3]
    cases h
    exact q_ret rfl at_.at_ rfl (res1 rfl rfl) ⟨rfl,rfl⟩
   ·refine q_cond_f rfl (.tmp rfl) (decide_eq_false hc7) (q_skipc rfl (qQ rfl (qR rfl rfl (qS 56 rfl (oM · rfl) (qS 57 rfl (oM · rfl) (qS 58 rfl (oM · rfl) (qS 59 rfl (oB · rfl rfl rfl) ?_)))))))
    try dsimp only [w0,w1,w2,w3]
    obtain ⟨p17,hp17,h⟩ := bindo h
    refine qS 60 rfl (ok_slice (kl := .i64) (kh := .i64) (s := x0) (l := 0) (h := (w64 ((Sl.len x0 : Int) + (Sl.len x2 : Int)))) · tu41 si3 (.tmp rfl) (.inl ⟨rfl,rfl⟩) (.inr ⟨_,rfl,(.tmp rfl)⟩) hp17) (qS 0 rfl (oA · rfl) (rE ?_))
    try dsimp only [w0,w1,w2,w3]
    refine qQ rfl (qQ rfl (qR rfl rfl (qS 61 rfl (oM · rfl) (qS 62 rfl (oM · rfl) (qS 63 rfl (oM · rfl) (qS 64 rfl (oM · rfl) ?_))))))
    try dsimp only [w0,w1,w2,w3]
    obtain ⟨p18,hp18,h⟩ := bindo h
    obtain ⟨p19,hp19,h⟩ := bindo h
    refine qS 65 rfl (oB · rfl rfl rfl) (qS 66 rfl (ok_slice (kl := .i64) (kh := .i64) (s := p17) (l := (w64 (x1 + (Sl.len x2 : Int)))) (h := (Sl.len p17 : Int)) · tu41 si3 (.tmp rfl) (.inr ⟨_,rfl,(.tmp rfl)⟩) (.inl ⟨rfl,rfl⟩) hp18) (qS 67 rfl (ok_overlaps (s1 := x2) (s2 := p18) · ext97 tu41 si3 (.tmp rfl) (.tmp rfl) hp19) (qS 68 rfl (ok_not · (.tmp rfl)) (rE ?_))))
    try dsimp only [w0,w1,w2,w3]
    rcases ifc h with ⟨hc20,h⟩ | ⟨hc20,h⟩
    ·refine q_cond_t rfl (.tmp rfl) hc20 (qQ rfl ?_)
     refine x_start (cls := [0,0,0,0,1,0,0,1,2]) (rk := [0,1,2,3,4,5,6,7,8]) rfl (by kernel_rfl) ?_
     refine yf 69 [0] rfl (oM · rfl) ?_
     refine yf 70 [1] rfl (oM · rfl) ?_
     refine yf 71 [7] rfl (oM · rfl) ?_
     refine yf 72 [70,71] rfl (oB · rfl rfl rfl) ?_
     try dsimp only [w0,w1,w2,w3]
     obtain ⟨p21,hp21,h⟩ := bindo h
     refine yr 73 [69,72] rfl (ok_slice (kl := .i64) (kh := .i64) (s := p17) (l := (w64 (x1 + (Sl.len x2 : Int)))) (h := (Sl.len p17 : Int)) · tu41 si3 (.tmp rfl) (.inr ⟨_,rfl,(.tmp rfl)⟩) (.inl ⟨rfl,rfl⟩) hp21) ?_
     refine yf 74 [0] rfl (oM · rfl) ?_
     refine yf 75 [1] rfl (oM · rfl) ?_
     obtain ⟨p22,hp22,h⟩ := bindo h
     refine yr 76 [74,75] rfl (ok_slice (kl := .i64) (kh := .i64) (s := p17) (l := x1) (h := (Sl.len p17 : Int)) · tu41 si3 (.tmp rfl) (.inr ⟨_,rfl,(.tmp rfl)⟩) (.inl ⟨rfl,rfl⟩) hp22) ?_
     try dsimp only [w0,w1,w2,w3]
     obtain ⟨p23,hp23,h⟩ := bindo h
     obtain ⟨p24,hp24,h⟩ := bindo h
     refine ye 77 [73,76] rfl (ok_copy (s := p21) (s1 := p22) el41 · rfl (.tmp rfl) (.tmp rfl) hp23 hp24) ?_
     refine x_rest rfl ?_
     refine rE ?_
     try dsimp only [w0,w1,w2,w3]
     obtain ⟨p25,hp25,h⟩ := bindo h
     refine qQ rfl (qR rfl rfl (qS 78 rfl (oM · rfl) (qS 79 rfl (oM · rfl) (qS 80 rfl (ok_slice (kl := .i64) (kh := .i64) (s := p17) (l := x1) (h := (Sl.len p17 : Int)) · tu41 si3 (.tmp rfl) (.inr ⟨_,rfl,(.tmp rfl)⟩) (.inl ⟨rfl,rfl⟩) hp25) (qS 81 rfl (oM · rfl) ?_)))))
     try dsimp only [w0,w1,w2,w3]
     obtain ⟨p26,hp26,h⟩ := bindo h
     obtain ⟨p27,hp27,h⟩ := bindo h
     refine qS 82 rfl (ok_copy (s := p25) (s1 := x2) el41 · rfl (.tmp rfl) (.tmp rfl) hp26 hp27) (rE ?_)
     try dsimp only [w0,w1,w2,w3]
     refine qQ rfl (qR rfl rfl (qS 83 rfl (oM · rfl) (qS 6 rfl (oA · rfl) (rE ?_))))
     try dsimp only [w0,w1,w2,w3]
     cases h
     exact q_ret rfl at_.at_ rfl (res1 rfl rfl) ⟨rfl,rfl⟩
    ·obtain ⟨p28,hp28,h⟩ := bindo h
     refine q_cond_f rfl (.tmp rfl) (bfalse hc20) (q_skipc rfl (qQ rfl (qR rfl rfl (qS 84 rfl (oM · rfl) (qS 85 rfl (oM · rfl) (qS 86 rfl (ok_slice (kl := .i64) (kh := .i64) (s := p17) (l := (Sl.len x0 : Int)) (h := (Sl.len p17 : Int)) · tu41 si3 (.tmp rfl) (.inr ⟨_,rfl,(.tmp rfl)⟩) (.inl ⟨rfl,rfl⟩) hp28) (qS 87 rfl (oM · rfl) ?_)))))))
     try dsimp only [w0,w1,w2,w3]
     obtain ⟨p29,hp29,h⟩ := bindo h
     obtain ⟨p30,hp30,h⟩ := bindo h
     refine qS 88 rfl (ok_copy (s := p28) (s1 := x2) el41 · rfl (.tmp rfl) (.tmp rfl) hp29 hp30) (rE ?_)
     try dsimp only [w0,w1,w2,w3]
     obtain ⟨p31,hp31,h⟩ := bindo h
     refine qQ rfl (qR rfl rfl (qS 89 rfl (oM · rfl) (qS 90 rfl (oM · rfl) (qS 91 rfl (ok_slice (kl := .i64) (kh := .i64) (s := p17) (l := x1) (h := (Sl.len p17 : Int)) · tu41 si3 (.tmp rfl) (.inr ⟨_,rfl,(.tmp rfl)⟩) (.inl ⟨rfl,rfl⟩) hp31) (qS 92 rfl (oM · rfl) ?_)))))
     try dsimp only [w0,w1,w2,w3]
     obtain ⟨p32,hp32,h⟩ := bindo h
     refine q_call (dst := some 93) rfl (.func _) (.cons (.tmp rfl) (.cons (.tmp rfl) Evs.nil)) (HInv.static slices_rotateRight_int.at_ slices_rotateRight_int.body (slices_rotateRight_int.snd  hp32)) ?_
     rintro _ _ ⟨rfl,rfl⟩
     refine rE ?_
     try dsimp only [w0,w1,w2,w3]
     refine qQ rfl (qR rfl rfl (qS 94 rfl (oM · rfl) (qS 6 rfl (oA · rfl) (rE ?_))))
     try dsimp only [w0,w1,w2,w3]
     cases h
     exact q_ret rfl at_.at_ rfl (res1 rfl rfl) ⟨rfl,rfl⟩
end
end slices_Insert_int_int
namespace slices_Insert_int_int_w
theorem at_ : FnAt Tryz.prog 79 Tryz.f79 := slices_Insert_int_int.at_
theorem body : Tryz.f79.body = some slices_Insert_int_int.c0 := slices_Insert_int_int.body
def f (x0 : Sl) (x1 : Int) (x2 : Sl) (S : HS) : Option ((Sl) × HS) := HS.ins S x0 x1 x2 1
theorem snd {base : Nat} {W0 : World} {β0 : Bt} {x0 : Sl} {x1 : Int} {x2 : Sl} {S : HS} {p : (Sl) × HS} (h : f x0 x1 x2 S = some p) : HCall Tryz.prog base W0 β0 79 [(Sl.hv x0),(.int .i64 x1),(Sl.hv x2)] S (fun v S1 => v = (Sl.hv p.1) ∧ S1 = p.2) :=
 ins_snd (rot := fun a b T => slices_rotateRight_int.f 0 a b T) (zr := [(.int .i64 0)]) (fun _ _ _ h => slices_Insert_int_int.snd (k := 0) h) h
end slices_Insert_int_int_w
namespace set_Set_int_Add
theorem at_ : FnAt Tryz.prog 63 Tryz.f63 := ⟨Tryz.func63,by kernel_rfl⟩
noncomputable def d0 := (Tryz.f63.body).getD .skip
noncomputable def r1 := kR (kA d0)
noncomputable def r3 := kR (kA (kB d0))
noncomputable def r6 := kR (kA (kA (kB (kB d0))))
noncomputable def r9 := kR (kA (kA (kB (kA (kB (kB d0))))))
noncomputable def d12 := kB (kB (kB d0))
noncomputable def r14 := kR (kA (kA d12))
noncomputable def d16 := kA (kB (kA d12))
noncomputable def r18 := kR (kA (kA d16))
noncomputable def d23 := kB (kB (kA d16))
noncomputable def r26 := kR (kA (kA (kA d23)))
noncomputable def d27 := kB (kA (kA d23))
noncomputable def r28 := kR (kA d27)
noncomputable def r30 := kR (kA (kB d27))
noncomputable def r33 := kR (kA (kA (kB (kB d27))))
noncomputable def r34 := kR (kB (kA (kB (kB d27))))
noncomputable def r36 := kR (kB d23)
noncomputable def r38 := kR (kA (kB d12))
noncomputable def c37 : Code := .seq (.region 12 r38 false) .ret
noncomputable def c36 : Code := .region 11 r36 false
noncomputable def c17 : Code := .seq (.region 5 r18 false) (.seq (.cond (.tmp 15) .skip (.exit 0)) (.seq (.block 1 (.seq (.region 6 r26 false) (.seq (.region 7 r28 false) (.seq (.region 8 r30 false) (.cond (.tmp 28) (.seq (.region 9 r33 false) (.region 10 r34 false)) .skip))))) c36))
noncomputable def c0 : Code := .seq (.region 0 r1 false) (.seq (.region 1 r3 false) (.seq (.seq (.region 2 r6 false) (.cond (.tmp 11) (.seq (.region 3 r9 false) .ret) .skip)) (.seq (.seq (.region 4 r14 false) (.block 0 (.loop c17))) c37)))
theorem body : Tryz.f63.body = some c0 := by kernel_rfl
section
variable {base : Nat} {W0 : World} {β0 : Bt}
def J1 (k : Nat) (rec0 : (Option HA) → Int → Sl → Int → Int → HS → Option ((Int) × HS)) (y0 : (Option HA)) (y5 : Int) (y12 : Sl) (y13 : Int) (y14 : Int) (S : HS) : Option ((Int) × HS) :=
 rec0 y0 y5 y12 y13 (w64 (y14 + 1)) S
theorem J1_snd {k : Nat} {rec0 : (Option HA) → Int → Sl → Int → Int → HS → Option ((Int) × HS)} (hrec0 : ∀ ⦃y0 : (Option HA)⦄ ⦃y5 : Int⦄ ⦃y12 : Sl⦄ ⦃y13 : Int⦄ ⦃y14 : Int⦄ ⦃S : HS⦄ ⦃p : (Int) × HS⦄ ⦃Gb Gc Gd Ge Gg Gh Gi Gj Gk Gl Gp Gq Gr Gs Gt Gu Gv Gw Gx Gy Gz Ka Kb Kc Kd Ke Kf Kg Kh Ki Kj Kk Kl Km Kn Ko Kp Kq Kr : HV⦄,rec0 y0 y5 y12 y13 y14 S = some p → HRun Tryz.prog base W0 β0 63 none [.inLoop c17,.inBlock 0,.code c37] ⟨[(.ptr y0),Gb,Gc,Gd,Ge,(.int .i64 y5),Gg,Gh,Gi,Gj,Gk,Gl,(Sl.hv y12),(.int .i64 y13),(.int .i64 y14),Gp,Gq,Gr,Gs,Gt,Gu,Gv,Gw,Gx,Gy,Gz,Ka,Kb,Kc,Kd,Ke,Kf,Kg,Kh,Ki,Kj,Kk,Kl,Km,Kn,Ko,Kp,Kq,Kr],[]⟩ S (fun v S1 => v = (.int .i64 p.1) ∧ S1 = p.2)) {y0 : (Option HA)} {y5 : Int} {y12 : Sl} {y13 : Int} {y14 : Int} {S : HS} {p : (Int) × HS} {Gb Gc Gd Ge Gg Gh Gi Gj Gk Gl Gp Gq Gr Gs Gt Gu Gv Gw Gx Gy Gz Ka Kb Kc Kd Ke Kf Kg Kh Ki Kj Kk Kl Km Kn Ko Kp Kq Kr : HV} (h : J1 k rec0 y0 y5 y12 y13 y14 S = some p) : HRun Tryz.prog base W0 β0 63 none [.code c36,.inLoop c17,.inBlock 0,.code c37] ⟨[(.ptr y0),Gb,Gc,Gd,Ge,(.int .i64 y5),Gg,Gh,Gi,Gj,Gk,Gl,(Sl.hv y12),(.int .i64 y13),(.int .i64 y14),Gp,Gq,Gr,Gs,Gt,Gu,Gv,Gw,Gx,Gy,Gz,Ka,Kb,Kc,Kd,Ke,Kf,Kg,Kh,Ki,Kj,Kk,Kl,Km,Kn,Ko,Kp,Kq,Kr],[]⟩ S (fun v S1 => v = (.int .i64 p.1) ∧ S1 = p.2) := by
 unfold J1 at h
 refine qR rfl rfl (qS 42 rfl (oC · rfl rfl) (qS 14 rfl (oM · rfl) (rE ?_)))
 try dsimp only [w0,w1,w2,w3]
 try dsimp only [w0,w1,w2,w3]
 exact hrec0 h
def L0 (k : Nat) : Nat → (Option HA) → Int → Sl → Int → Int → HS → Option ((Int) × HS)
 | 0,_,_,_,_,_,_ => none
 | n + 1,y0,y5,y12,y13,y14,S =>
  (if y14 < y13 then
  (Option.bind (HS.idx S y12 y14 1) fun p3 =>
  (Option.bind (HS.ldI S .i64 p3) fun p4 =>
  (Option.bind (y0) fun p5 =>
  (Option.bind (HS.ldSl S (HA.fld p5 0)) fun p6 =>
  (Option.bind (slices_BinarySearch_int_int.f k p6 p4 S) fun p7 =>
  (if (!p7.1.2) = true then
  (Option.bind (y0) fun p9 =>
  (Option.bind (HS.ldSl p7.2 (HA.fld p9 0)) fun p10 =>
  (letv (HS.lit p7.2 [[(.int .i64 p4)]] 1) fun p11 =>
  (Option.bind (slices_Insert_int_int_w.f p10 p7.1.1 (p11.1) (p11.2)) fun p12 =>
  (Option.bind (y0) fun p13 =>
  (Option.bind (HS.sets p12.2 (HA.fld p13 0) [(Sl.hv p12.1)]) fun p14 =>
  J1 k (L0 k n) y0 (w64 (y5 + 1)) y12 y13 y14 p14)))))) else
  J1 k (L0 k n) y0 y5 y12 y13 y14 p7.2)))))) else
  some (y5,S))
theorem L0_snd {k : Nat}  : ∀ {n : Nat} ⦃y0 : (Option HA)⦄ ⦃y5 : Int⦄ ⦃y12 : Sl⦄ ⦃y13 : Int⦄ ⦃y14 : Int⦄ ⦃S : HS⦄ ⦃p : (Int) × HS⦄ ⦃Gb Gc Gd Ge Gg Gh Gi Gj Gk Gl Gp Gq Gr Gs Gt Gu Gv Gw Gx Gy Gz Ka Kb Kc Kd Ke Kf Kg Kh Ki Kj Kk Kl Km Kn Ko Kp Kq Kr : HV⦄,L0 k n y0 y5 y12 y13 y14 S = some p → HRun Tryz.prog base W0 β0 63 none [.inLoop c17,.inBlock 0,.code c37] ⟨[(.ptr y0),Gb,Gc,Gd,Ge,(.int .i64 y5),Gg,Gh,Gi,Gj,Gk,Gl,(Sl.hv y12),(.int .i64 y13),(.int .i64 y14),Gp,Gq,Gr,Gs,Gt,Gu,Gv,Gw,Gx,Gy,Gz,Ka,Kb,Kc,Kd,Ke,Kf,Kg,Kh,Ki,Kj,Kk,Kl,Km,Kn,Ko,Kp,Kq,Kr],[]⟩ S (fun v S1 => v = (.int .i64 p.1) ∧ S1 = p.2) := by
 intro n
 induction n with
 | zero => intro _ _ _ _ _ _ _ _ _ _ _ _ _ _ _ _ _ _ _ _ _ _ _ _ _ _ _ _ _ _ _ _ _ _ _ _ _ _ _ _ _ _ _ _ _ _ h; cases h
 | succ n ih =>
  intro y0 y5 y12 y13 y14 S p Gb Gc Gd Ge Gg Gh Gi Gj Gk Gl Gp Gq Gr Gs Gt Gu Gv Gw Gx Gy Gz Ka Kb Kc Kd Ke Kf Kg Kh Ki Kj Kk Kl Km Kn Ko Kp Kq Kr h
  simp only [L0] at h
  refine hr_inLoop (qQ rfl (qR rfl rfl (qS 15 rfl (oB · rfl rfl rfl) (rE ?_))))
  try dsimp only [w0,w1,w2,w3]
  refine qQ rfl ?_
  rcases ifc h with ⟨hc2,h⟩ | ⟨hc2,h⟩
  ·obtain ⟨p3,hp3,h⟩ := bindo h
   obtain ⟨p4,hp4,h⟩ := bindo h
   refine q_cond_t rfl (.tmp rfl) (decide_eq_true hc2) (q_skipc rfl (qQ rfl (q_block rfl (qQ rfl (qR rfl rfl (qS 16 rfl (oX (s := y12) · tu41 sz3 rfl rfl hp3) (qS 17 rfl (oL · sc3 rfl rfl (ldI_out hp4)) (qS 7 rfl (oA · rfl) (rE ?_)))))))))
   try dsimp only [w0,w1,w2,w3]
   obtain ⟨p5,hp5,h⟩ := bindo h
   obtain ⟨p6,hp6,h⟩ := bindo h
   refine qQ rfl (qR rfl rfl (qS 19 rfl (oM · rfl) (qS 20 rfl (oN · rfl hp5) (qS 21 rfl (oF · fi112_0 (by decide) rfl rfl) (qS 22 rfl (oL · sc41 rfl rfl (ldSl_out hp6)) ?_)))))
   try dsimp only [w0,w1,w2,w3]
   obtain ⟨p7,hp7,h⟩ := bindo h
   refine qS 23 rfl (oM · rfl) (q_call (dst := some 24) rfl (.func _) (.cons (.tmp rfl) (.cons (.tmp rfl) Evs.nil)) (HInv.static slices_BinarySearch_int_int.at_ slices_BinarySearch_int_int.body (slices_BinarySearch_int_int.snd  hp7)) ?_)
   rintro _ _ ⟨rfl,rfl⟩
   refine qS 18 rfl (oM · rfl) (qS 25 rfl (ok_extract · (.tmp rfl) rfl) ?_)
   try dsimp only [w0,w1,w2,w3]
   refine qS 26 rfl (ok_extract · (.tmp rfl) rfl) (qS 8 rfl (oA · rfl) (qS 9 rfl (oA · rfl) (rE ?_)))
   try dsimp only [w0,w1,w2,w3]
   refine qQ rfl (qR rfl rfl (qS 27 rfl (oM · rfl) (qS 28 rfl (ok_not · (.tmp rfl)) (rE ?_))))
   try dsimp only [w0,w1,w2,w3]
   rcases ifc h with ⟨hc8,h⟩ | ⟨hc8,h⟩
   ·obtain ⟨p9,hp9,h⟩ := bindo h
    refine q_cond_t rfl (.tmp rfl) hc8 (qQ rfl (qR rfl rfl (qS 29 rfl (oM · rfl) (qS 30 rfl (oM · rfl) (qS 31 rfl (oN · rfl hp9) (qS 32 rfl (oF · fi112_0 (by decide) rfl rfl) ?_))))))
    try dsimp only [w0,w1,w2,w3]
    obtain ⟨p10,hp10,h⟩ := bindo h
    obtain ⟨p11,hp11,h⟩ := leto h
    refine qS 33 rfl (oL · sc41 rfl rfl (ldSl_out hp10)) (qS 34 rfl (oM · rfl) (qS 35 rfl (oM · rfl) (qS 36 rfl (ok_buildSlice_s (xs := [(.tmp 35)]) el41 · rfl rfl (by decide) (.cons (.tmp rfl) Evs.nil) rfl rfl hp11) ?_)))
    try dsimp only [w0,w1,w2,w3]
    obtain ⟨p12,hp12,h⟩ := bindo h
    refine q_call (dst := some 37) rfl (.func _) (.cons (.tmp rfl) (.cons (.tmp rfl) (.cons (.tmp rfl) Evs.nil))) (HInv.static slices_Insert_int_int_w.at_ slices_Insert_int_int_w.body (slices_Insert_int_int_w.snd  hp12)) ?_
    rintro _ _ ⟨rfl,rfl⟩
    obtain ⟨p13,hp13,h⟩ := bindo h
    obtain ⟨p14,hp14,h⟩ := bindo h
    refine qS 38 rfl (oN · rfl hp13) (qS 39 rfl (oF · fi112_0 (by decide) rfl rfl) (qN rfl (ok_store_s (v := (Sl.hv p12.1)) · sz41 (.tmp rfl) rfl (.tmp rfl) rfl hp14) (rE ?_)))
    try dsimp only [w0,w1,w2,w3]
    refine qR rfl rfl (qS 40 rfl (oM · rfl) (qS 41 rfl (oC · rfl rfl) (qS 5 rfl (oA · rfl) (rE ?_))))
    try dsimp only [w0,w1,w2,w3]
    refine hr_inBlock ?_
    try dsimp only [w0,w1,w2,w3]
    exact J1_snd ih h
   ·refine q_cond_f rfl (.tmp rfl) (bfalse hc8) (q_skipc rfl (hr_inBlock ?_))
    try dsimp only [w0,w1,w2,w3]
    exact J1_snd ih h
  ·refine q_cond_f rfl (.tmp rfl) (decide_eq_false hc2) (q_exit rfl rfl (qQ rfl (qR rfl rfl (qS 43 rfl (oM · rfl) (qS 4 rfl (oA · rfl) (rE ?_))))))
   try dsimp only [w0,w1,w2,w3]
   cases h
   exact q_ret rfl at_.at_ rfl (res1 rfl rfl) ⟨rfl,rfl⟩
def f (k : Nat) (x0 : (Option HA)) (x1 : Sl) (S : HS) : Option ((Int) × HS) :=
 (if (Option.isNone x0) = true then
 some (0,S) else
 L0 k k x0 0 x1 (Sl.len x1 : Int) 0 S)
theorem snd {k : Nat} {x0 : (Option HA)} {x1 : Sl} {S : HS}  {p : (Int) × HS} (h : f k x0 x1 S = some p) : HCall Tryz.prog base W0 β0 63 [(.ptr x0),(Sl.hv x1)] S (fun v S1 => v = (.int .i64 p.1) ∧ S1 = p.2) := by
 unfold f at h
 refine HCall.of_run at_.at_ body ?_
 show HRun Tryz.prog base W0 β0 63 none [.code c0] ⟨[(.ptr x0),(Sl.hv x1),τ,τ,τ,τ,τ,τ,τ,τ,τ,τ,τ,τ,τ,τ,τ,τ,τ,τ,τ,τ,τ,τ,τ,τ,τ,τ,τ,τ,τ,τ,τ,τ,τ,τ,τ,τ,τ,τ,τ,τ,τ,τ],[]⟩ S _
 refine qQ rfl (qR rfl rfl (qS 4 rfl (ok_assign · (.int _ _)) (rE ?_)))
 try dsimp only [w0,w1,w2,w3]
 refine qQ rfl (qR rfl rfl (qS 5 rfl (ok_assign · (.int _ _)) (rE ?_)))
 try dsimp only [w0,w1,w2,w3]
 refine qQ rfl (qQ rfl (qR rfl rfl (qS 10 rfl (oM · rfl) (qS 11 rfl (ok_nil_ptr · tu96 (.tmp rfl) (.inl ⟨rfl,rfl⟩)) (rE ?_)))))
 try dsimp only [w0,w1,w2,w3]
 rcases ifc h with ⟨hc1,h⟩ | ⟨hc1,h⟩
 ·refine q_cond_t rfl (.tmp rfl) hc1 (qQ rfl (qR rfl rfl (qS 4 rfl (ok_assign · (.int _ _)) (rE ?_))))
  try dsimp only [w0,w1,w2,w3]
  cases h
  exact q_ret rfl at_.at_ rfl (res1 rfl rfl) ⟨rfl,rfl⟩
 ·refine q_cond_f rfl (.tmp rfl) (bfalse hc1) (q_skipc rfl (qQ rfl (qQ rfl (qR rfl rfl (qS 12 rfl (oM · rfl) (qS 13 rfl (ok_len_sl (q := Sl.a x1) (n := Sl.len x1) (z := Sl.cap x1) · rfl tu41 (.tmp rfl)) (qS 14 rfl (ok_move · (.int _ _)) (rE ?_))))))))
  try dsimp only [w0,w1,w2,w3]
  refine q_block rfl (q_loop rfl ?_)
  try dsimp only [w0,w1,w2,w3]
  exact L0_snd  h
end
end set_Set_int_Add
namespace set_Of_int
theorem at_ : FnAt Tryz.prog 62 Tryz.f62 := ⟨Tryz.func62,by kernel_rfl⟩
noncomputable def d0 := (Tryz.f62.body).getD .skip
noncomputable def r1 := kR (kA d0)
noncomputable def r3 := kR (kA (kB d0))
noncomputable def r5 := kR (kA (kB (kB d0)))
noncomputable def r7 := kR (kA (kB (kB (kB d0))))
noncomputable def c0 : Code := .seq (.region 0 r1 false) (.seq (.region 1 r3 false) (.seq (.region 2 r5 false) (.seq (.region 3 r7 false) .ret)))
theorem body : Tryz.f62.body = some c0 := by kernel_rfl
section
variable {base : Nat} {W0 : World} {β0 : Bt}
def f (k : Nat) (x0 : Sl) (S : HS) : Option (((Option HA)) × HS) :=
 (letv (HS.new S (.cells 1 [[(Sl.hv Sl.nil)]] true)) fun p1 =>
 (Option.bind (set_Set_int_Add.f k (some (HA.cell0 S.next)) x0 p1) fun p2 =>
 some ((some (HA.cell0 S.next)),p2.2)))
theorem snd {k : Nat} {x0 : Sl} {S : HS}  {p : ((Option HA)) × HS} (h : f k x0 S = some p) : HCall Tryz.prog base W0 β0 62 [(Sl.hv x0)] S (fun v S1 => v = (.ptr p.1) ∧ S1 = p.2) := by
 unfold f at h
 refine HCall.of_run at_.at_ body ?_
 show HRun Tryz.prog base W0 β0 62 none [.code c0] ⟨[(Sl.hv x0),τ,τ,τ,τ,τ,τ,τ,τ,τ],[]⟩ S _
 refine qQ rfl (qR rfl rfl (qS 2 rfl (ok_assign · (.const fun _ => .ptrNil)) (rE ?_)))
 try dsimp only [w0,w1,w2,w3]
 obtain ⟨p1,hp1,h⟩ := leto h
 refine qQ rfl (qR rfl rfl (qS 4 rfl (ok_build (is := []) (xs := []) (r := [(Sl.hv Sl.nil)]) st112 · rfl rfl Evs.nil rfl) (qS 5 rfl (ok_box_e · (.tmp rfl) (Nat.zero_lt_succ _) rfl hp1) (qS 3 rfl (oA · rfl) (rE ?_)))))
 try dsimp only [w0,w1,w2,w3]
 obtain ⟨p2,hp2,h⟩ := bindo h
 refine qQ rfl (qR rfl rfl (qS 6 rfl (oM · rfl) (qS 7 rfl (oM · rfl) (q_call (dst := some 8) rfl (.func _) (.cons (.tmp rfl) (.cons (.tmp rfl) Evs.nil)) (HInv.static set_Set_int_Add.at_ set_Set_int_Add.body (set_Set_int_Add.snd  hp2)) ?_))))
 rintro _ _ ⟨rfl,rfl⟩
 refine rE ?_
 try dsimp only [w0,w1,w2,w3]
 refine qQ rfl (qR rfl rfl (qS 9 rfl (oM · rfl) (qS 2 rfl (oA · rfl) (rE ?_))))
 try dsimp only [w0,w1,w2,w3]
 cases h
 exact q_ret rfl at_.at_ rfl (res1 rfl rfl) ⟨rfl,rfl⟩
end
end set_Of_int
namespace pair_put_string_int
theorem at_ : FnAt Tryz.prog 44 Tryz.f44 := ⟨Tryz.func44,by kernel_rfl⟩
noncomputable def d0 := (Tryz.f44.body).getD .skip
noncomputable def r2 := kR (kA (kA d0))
noncomputable def r4 := kR (kA (kB (kA d0)))
noncomputable def r6 := kR (kB d0)
noncomputable def c6 : Code := .region 2 r6 false
noncomputable def c0 : Code := .seq (.seq (.region 0 r2 false) (.cond (.tmp 9) (.region 1 r4 false) .skip)) c6
theorem body : Tryz.f44.body = some c0 := by kernel_rfl
section
variable {base : Nat} {W0 : World} {β0 : Bt}
def J0 (k : Nat) (y0 : (Option Nat)) (y1 : (List UInt8)) (y2 : Int) (S : HS) : Option ((Unit) × HS) :=
 (Option.bind (HS.look S y0 (.str y1)) fun p6 =>
 (Option.bind (dP (Option.getD p6 (.ptr none))) fun p7 =>
 (letv (HS.lit S [[(.int .i64 y2)]] 1) fun p8 =>
 (Option.bind (set_Set_int_Add.f k p7 (p8.1) (p8.2)) fun p9 =>
 some ((),p9.2)))))
theorem J0_snd {k : Nat}  {y0 : (Option Nat)} {y1 : (List UInt8)} {y2 : Int} {S : HS} {p : (Unit) × HS} {Gd Ge Gf Gg Gh Gi Gj Gk Gl Gm Gn Go Gp Gq Gr Gs : HV} (h : J0 k y0 y1 y2 S = some p) : HRun Tryz.prog base W0 β0 44 none [.code c6] ⟨[(.map y0),(.str y1),(.int .i64 y2),Gd,Ge,Gf,Gg,Gh,Gi,Gj,Gk,Gl,Gm,Gn,Go,Gp,Gq,Gr,Gs],[]⟩ S (fun v S1 => v = (.tup []) ∧ S1 = p.2) := by
 unfold J0 at h
 obtain ⟨p6,hp6,h⟩ := bindo h
 obtain ⟨p7,hp7,h⟩ := bindo h
 refine qR rfl rfl (qS 13 rfl (oM · rfl) (qS 14 rfl (oM · rfl) (qS 15 rfl (ok_lookup · tu79 zi96 (fun β => .ptrNil) (keyStr tu9) (.tmp rfl) (.tmp rfl) hp6 (dP_out hp7)) (qS 16 rfl (oM · rfl) ?_))))
 try dsimp only [w0,w1,w2,w3]
 obtain ⟨p8,hp8,h⟩ := leto h
 obtain ⟨p9,hp9,h⟩ := bindo h
 refine qS 17 rfl (ok_buildSlice_s (xs := [(.tmp 16)]) el41 · rfl rfl (by decide) (.cons (.tmp rfl) Evs.nil) rfl rfl hp8) (q_call (dst := some 18) rfl (.func _) (.cons (.tmp rfl) (.cons (.tmp rfl) Evs.nil)) (HInv.static set_Set_int_Add.at_ set_Set_int_Add.body (set_Set_int_Add.snd  hp9)) ?_)
 rintro _ _ ⟨rfl,rfl⟩
 refine rE ?_
 try dsimp only [w0,w1,w2,w3]
 cases h
 exact q_end at_.at_ rfl (res0 rfl) ⟨rfl,rfl⟩
def f (k : Nat) (x0 : (Option Nat)) (x1 : (List UInt8)) (x2 : Int) (S : HS) : Option ((Unit) × HS) :=
 (Option.bind (HS.look S x0 (.str x1)) fun p1 =>
 (Option.bind (dP (Option.getD p1 (.ptr none))) fun p2 =>
 (if (Option.isNone p2) = true then
 (Option.bind (set_Of_int.f k Sl.nil S) fun p4 =>
 (Option.bind (HS.mput p4.2 x0 (.str x1) (.ptr p4.1)) fun p5 =>
 J0 k x0 x1 x2 p5)) else
 J0 k x0 x1 x2 S)))
theorem snd {k : Nat} {x0 : (Option Nat)} {x1 : (List UInt8)} {x2 : Int} {S : HS}  {p : (Unit) × HS} (h : f k x0 x1 x2 S = some p) : HCall Tryz.prog base W0 β0 44 [(.map x0),(.str x1),(.int .i64 x2)] S (fun v S1 => v = (.tup []) ∧ S1 = p.2) := by
 unfold f at h
 refine HCall.of_run at_.at_ body ?_
 show HRun Tryz.prog base W0 β0 44 none [.code c0] ⟨[(.map x0),(.str x1),(.int .i64 x2),τ,τ,τ,τ,τ,τ,τ,τ,τ,τ,τ,τ,τ,τ,τ,τ],[]⟩ S _
 obtain ⟨p1,hp1,h⟩ := bindo h
 obtain ⟨p2,hp2,h⟩ := bindo h
 refine qQ rfl (qQ rfl (qR rfl rfl (qS 6 rfl (oM · rfl) (qS 7 rfl (oM · rfl) (qS 8 rfl (ok_lookup · tu79 zi96 (fun β => .ptrNil) (keyStr tu9) (.tmp rfl) (.tmp rfl) hp1 (dP_out hp2)) (qS 9 rfl (ok_nil_ptr · tu96 (.tmp rfl) (.inl ⟨rfl,rfl⟩)) (rE ?_)))))))
 try dsimp only [w0,w1,w2,w3]
 rcases ifc h with ⟨hc3,h⟩ | ⟨hc3,h⟩
 ·obtain ⟨p4,hp4,h⟩ := bindo h
  refine q_cond_t rfl (.tmp rfl) hc3 (qR rfl rfl (qS 10 rfl (oM · rfl) (qS 11 rfl (oM · rfl) (q_call (dst := some 12) rfl (.func _) (.cons (.const fun _ => .slNil none) Evs.nil) (HInv.static set_Of_int.at_ set_Of_int.body (set_Of_int.snd  hp4)) ?_))))
  rintro _ _ ⟨rfl,rfl⟩
  obtain ⟨p5,hp5,h⟩ := bindo h
  refine qN rfl (ok_mapUpdate · tu79 (keyStr tu9) (.tmp rfl) (.tmp rfl) (.tmp rfl) hp5) (rE ?_)
  try dsimp only [w0,w1,w2,w3]
  try dsimp only [w0,w1,w2,w3]
  exact J0_snd  h
 ·refine q_cond_f rfl (.tmp rfl) (bfalse hc3) (q_skipc rfl ?_)
  try dsimp only [w0,w1,w2,w3]
  exact J0_snd  h
end
end pair_put_string_int
namespace pair_Rel_int_string_Add
theorem at_ : FnAt Tryz.prog 28 Tryz.f28 := ⟨Tryz.func28,by kernel_rfl⟩
noncomputable def d0 := (Tryz.f28.body).getD .skip
noncomputable def r1 := kR (kA d0)
noncomputable def d4 := kA (kA (kB d0))
noncomputable def r5 := kR (kA d4)
noncomputable def r8 := kR (kA (kA (kB d4)))
noncomputable def r11 := kR (kA (kB (kB d4)))
noncomputable def r14 := kR (kA (kA (kB (kB (kB d4)))))
noncomputable def r17 := kR (kA (kB (kB (kB (kB d4)))))
noncomputable def r20 := kR (kA (kA (kB (kB (kB (kB (kB d4)))))))
noncomputable def r24 := kR (kA (kB (kB d0)))
noncomputable def r26 := kR (kA (kB (kB (kB d0))))
noncomputable def r28 := kR (kA (kB (kB (kB (kB d0)))))
noncomputable def r30 := kR (kA (kB (kB (kB (kB (kB d0))))))
noncomputable def c0 : Code := .seq (.region 0 r1 false) (.seq (.block 0 (.seq (.region 1 r5 false) (.cond (.tmp 7) (.seq (.region 2 r8 false) .ret) (.seq (.region 3 r11 false) (.cond (.tmp 10) (.seq (.region 4 r14 false) .ret) (.seq (.region 5 r17 true) (.cond (.tmp 15) (.seq (.region 6 r20 false) .ret) .skip))))))) (.seq (.region 7 r24 false) (.seq (.region 8 r26 false) (.seq (.region 9 r28 false) (.seq (.region 10 r30 false) .ret)))))
theorem body : Tryz.f28.body = some c0 := by kernel_rfl
section
variable {base : Nat} {W0 : World} {β0 : Bt}
def f (k : Nat) (x0 : (Option HA)) (x1 : Int) (x2 : (List UInt8)) (S : HS) : Option ((Int) × HS) :=
 (if (Option.isNone x0) = true then
 some (1,S) else
 (Option.bind (pair_Rel_int_string_Has.f k x0 x1 x2 S) fun p2 =>
 (if p2.1 = true then
 some (6,p2.2) else
 (Option.bind (pair_Rel_int_string_Count.f x0 x1 p2.2) fun p4 =>
 (Option.bind (x0) fun p5 =>
 (Option.bind (HS.ldI p4.2 .i64 (HA.fld p5 0)) fun p6 =>
 (Option.bind (HS.ldI p2.2 .i64 (HA.fld p5 0)) fun p7 =>
 (if p7 = p6 then
 (if p4.1 ≥ p6 then
 some (7,p4.2) else
 (Option.bind (x0) fun p10 =>
 (Option.bind (HS.ldM p4.2 (HA.fld p10 2)) fun p11 =>
 (Option.bind (pair_put_int_string.f k p11 x1 x2 p4.2) fun p12 =>
 (Option.bind (x0) fun p13 =>
 (Option.bind (HS.ldM p12.2 (HA.fld p13 3)) fun p14 =>
 (Option.bind (pair_put_string_int.f k p14 x2 x1 p12.2) fun p15 =>
 (Option.bind (x0) fun p16 =>
 (Option.bind (HS.ldI p15.2 .i64 (HA.fld p16 1)) fun p17 =>
 (Option.bind (x0) fun p18 =>
 (Option.bind (HS.sets p15.2 (HA.fld p18 1) [(.int .i64 (w64 (p17 + 1)))]) fun p19 =>
 some (0,p19)))))))))))) else none))))))))
theorem snd {k : Nat} {x0 : (Option HA)} {x1 : Int} {x2 : (List UInt8)} {S : HS}  {p : (Int) × HS} (h : f k x0 x1 x2 S = some p) : HCall Tryz.prog base W0 β0 28 [(.ptr x0),(.int .i64 x1),(.str x2)] S (fun v S1 => v = (.int .i64 p.1) ∧ S1 = p.2) := by
 unfold f at h
 refine HCall.of_run at_.at_ body ?_
 show HRun Tryz.prog base W0 β0 28 none [.code c0] ⟨[(.ptr x0),(.int .i64 x1),(.str x2),τ,τ,τ,τ,τ,τ,τ,τ,τ,τ,τ,τ,τ,τ,τ,τ,τ,τ,τ,τ,τ,τ,τ,τ,τ,τ,τ,τ,τ,τ,τ,τ,τ,τ,τ,τ,τ,τ,τ,τ,τ,τ],[]⟩ S _
 refine qQ rfl (qR rfl rfl (qS 6 rfl (ok_assign · (.int _ _)) (rE ?_)))
 try dsimp only [w0,w1,w2,w3]
 refine qQ rfl (q_block rfl (qQ rfl (qR rfl rfl (qS 8 rfl (oM · rfl) (qS 9 rfl (ok_nil_ptr · tu55 (.tmp rfl) (.inl ⟨rfl,rfl⟩)) (qS 7 rfl (oA · rfl) (rE ?_)))))))
 try dsimp only [w0,w1,w2,w3]
 rcases ifc h with ⟨hc1,h⟩ | ⟨hc1,h⟩
 ·refine q_cond_t rfl (.tmp rfl) hc1 (qQ rfl (qR rfl rfl (qS 6 rfl (ok_assign · (.int _ _)) (rE ?_))))
  try dsimp only [w0,w1,w2,w3]
  cases h
  exact q_ret rfl at_.at_ rfl (res1 rfl rfl) ⟨rfl,rfl⟩
 ·obtain ⟨p2,hp2,h⟩ := bindo h
  refine q_cond_f rfl (.tmp rfl) (bfalse hc1) (qQ rfl (qR rfl rfl (qS 11 rfl (oM · rfl) (qS 12 rfl (oM · rfl) (qS 13 rfl (oM · rfl) (q_call (dst := some 14) rfl (.func _) (.cons (.tmp rfl) (.cons (.tmp rfl) (.cons (.tmp rfl) Evs.nil))) (HInv.static pair_Rel_int_string_Has.at_ pair_Rel_int_string_Has.body (pair_Rel_int_string_Has.snd  hp2)) ?_))))))
  rintro _ _ ⟨rfl,rfl⟩
  try dsimp only [w0,w1,w2,w3]
  refine qS 10 rfl (oA · rfl) (rE ?_)
  try dsimp only [w0,w1,w2,w3]
  rcases ifc h with ⟨hc3,h⟩ | ⟨hc3,h⟩
  ·refine q_cond_t rfl (.tmp rfl) hc3 (qQ rfl (qR rfl rfl (qS 6 rfl (ok_assign · (.int _ _)) (rE ?_))))
   try dsimp only [w0,w1,w2,w3]
   cases h
   exact q_ret rfl at_.at_ rfl (res1 rfl rfl) ⟨rfl,rfl⟩
  ·refine q_cond_f rfl (.tmp rfl) (bfalse hc3) (qQ rfl ?_)
   refine x_start (cls := [0,0,2,0,0,0,3,0,0]) (rk := [0,1,2,3,4,5,6,7,8]) rfl (by kernel_rfl) ?_
   refine xf 16 [0] rfl (oM · rfl) ?_
   refine xf 17 [1] rfl (oM · rfl) ?_
   obtain ⟨p4,hp4,h⟩ := bindo h
   refine x_goE (e_call (dst := some 18) (ts := [16,17]) rfl (by kernel_rfl) (.func _) (.cons (.tmp rfl) (.cons (.tmp rfl) Evs.nil)) (HInv.static pair_Rel_int_string_Count.at_ pair_Rel_int_string_Count.body (pair_Rel_int_string_Count.snd  hp4))) rfl trivial ?_
   refine xf 19 [0] rfl (oM · rfl) ?_
   try dsimp only [w0,w1,w2,w3]
   obtain ⟨p5,hp5,h⟩ := bindo h
   refine xf 20 [19] rfl (oN · rfl hp5) ?_
   refine xf 21 [20] rfl (oF · fi81_0 (by decide) rfl rfl) ?_
   obtain ⟨p6,hp6,h⟩ := bindo h
   obtain ⟨p7,hp7,h⟩ := bindo h
   obtain ⟨hg8,h⟩ := gd h
   refine x_late (r_op (dst := some 22) (ts := [21]) rfl (by intro _ _ h; cases h) (by kernel_rfl) (fun _ ho => ok_load_s ho sc3 (.tmp rfl) rfl (ldI_out hp6))) rfl ⟨.inr (l_op (dst := some 22) (ts := [21]) rfl (by intro _ _ h; cases h) (by kernel_rfl) (fun _ ho => ok_load_s ho sc3 (.tmp rfl) rfl (ldI_out (hp7.trans (congrArg some hg8))))),trivial⟩ ?_
   refine xf 23 [18,22] rfl (oB · rfl rfl rfl) ?_
   try dsimp only [w0,w1,w2,w3]
   refine xf 15 [23] rfl (oA · rfl) ?_
   refine x_rest rfl ?_
   refine rE ?_
   try dsimp only [w0,w1,w2,w3]
   rcases ifc h with ⟨hc9,h⟩ | ⟨hc9,h⟩
   ·refine q_cond_t rfl (.tmp rfl) (decide_eq_true hc9) (qQ rfl (qR rfl rfl (qS 6 rfl (ok_assign · (.int _ _)) (rE ?_))))
    try dsimp only [w0,w1,w2,w3]
    cases h
    exact q_ret rfl at_.at_ rfl (res1 rfl rfl) ⟨rfl,rfl⟩
   ·obtain ⟨p10,hp10,h⟩ := bindo h
    obtain ⟨p11,hp11,h⟩ := bindo h
    refine q_cond_f rfl (.tmp rfl) (decide_eq_false hc9) (q_skipc rfl (hr_inBlock (qQ rfl (qR rfl rfl (qS 24 rfl (oM · rfl) (qS 25 rfl (oN · rfl hp10) (qS 26 rfl (oF · fi81_2 (by decide) rfl rfl) (qS 27 rfl (oL · sc78 rfl rfl (ldM_out hp11)) ?_))))))))
    try dsimp only [w0,w1,w2,w3]
    obtain ⟨p12,hp12,h⟩ := bindo h
    refine qS 28 rfl (oM · rfl) (qS 29 rfl (oM · rfl) (q_call (dst := some 30) rfl (.func _) (.cons (.tmp rfl) (.cons (.tmp rfl) (.cons (.tmp rfl) Evs.nil))) (HInv.static pair_put_int_string.at_ pair_put_int_string.body (pair_put_int_string.snd  hp12)) ?_))
    rintro _ _ ⟨rfl,rfl⟩
    refine rE ?_
    try dsimp only [w0,w1,w2,w3]
    obtain ⟨p13,hp13,h⟩ := bindo h
    obtain ⟨p14,hp14,h⟩ := bindo h
    refine qQ rfl (qR rfl rfl (qS 31 rfl (oM · rfl) (qS 32 rfl (oN · rfl hp13) (qS 33 rfl (oF · fi81_3 (by decide) rfl rfl) (qS 34 rfl (oL · sc79 rfl rfl (ldM_out hp14)) ?_)))))
    try dsimp only [w0,w1,w2,w3]
    obtain ⟨p15,hp15,h⟩ := bindo h
    refine qS 35 rfl (oM · rfl) (qS 36 rfl (oM · rfl) (q_call (dst := some 37) rfl (.func _) (.cons (.tmp rfl) (.cons (.tmp rfl) (.cons (.tmp rfl) Evs.nil))) (HInv.static pair_put_string_int.at_ pair_put_string_int.body (pair_put_string_int.snd  hp15)) ?_))
    rintro _ _ ⟨rfl,rfl⟩
    refine rE ?_
    try dsimp only [w0,w1,w2,w3]
    obtain ⟨p16,hp16,h⟩ := bindo h
    obtain ⟨p17,hp17,h⟩ := bindo h
    refine qQ rfl (qR rfl rfl (qS 38 rfl (oM · rfl) (qS 39 rfl (oN · rfl hp16) (qS 40 rfl (oF · fi81_1 (by decide) rfl rfl) (qS 41 rfl (oL · sc3 rfl rfl (ldI_out hp17)) ?_)))))
    try dsimp only [w0,w1,w2,w3]
    obtain ⟨p18,hp18,h⟩ := bindo h
    obtain ⟨p19,hp19,h⟩ := bindo h
    refine qS 42 rfl (oC · rfl rfl) (qS 43 rfl (oN · rfl hp18) (qS 44 rfl (oF · fi81_1 (by decide) rfl rfl) (qN rfl (ok_store_s (v := (.int .i64 (w64 (p17 + 1)))) · sz3 (.tmp rfl) rfl (.tmp rfl) rfl hp19) (rE ?_))))
    try dsimp only [w0,w1,w2,w3]
    refine qQ rfl (qR rfl rfl (qS 6 rfl (ok_assign · (.int _ _)) (rE ?_)))
    try dsimp only [w0,w1,w2,w3]
    cases h
    exact q_ret rfl at_.at_ rfl (res1 rfl rfl) ⟨rfl,rfl⟩
end
end pair_Rel_int_string_Add
namespace wish_Lists_Add
theorem at_ : FnAt Tryz.prog 11 Tryz.f11 := ⟨Tryz.func11,by kernel_rfl⟩
noncomputable def d0 := (Tryz.f11.body).getD .skip
noncomputable def r1 := kR (kA d0)
noncomputable def r4 := kR (kA (kA (kB d0)))
noncomputable def r7 := kR (kA (kA (kB (kA (kB d0)))))
noncomputable def r11 := kR (kA (kB (kB d0)))
noncomputable def d12 := kB (kB (kB d0))
noncomputable def r13 := kR (kA d12)
noncomputable def r16 := kR (kA (kA (kB d12)))
noncomputable def r18 := kR (kA (kB (kA (kB d12))))
noncomputable def r21 := kR (kA (kB (kB d12)))
noncomputable def c20 : Code := .seq (.region 7 r21 false) .ret
noncomputable def c0 : Code := .seq (.region 0 r1 false) (.seq (.seq (.region 1 r4 false) (.cond (.tmp 10) (.seq (.region 2 r7 false) .ret) .skip)) (.seq (.region 3 r11 false) (.seq (.region 4 r13 false) (.seq (.seq (.region 5 r16 false) (.cond (.tmp 21) (.region 6 r18 false) .skip)) c20))))
theorem body : Tryz.f11.body = some c0 := by kernel_rfl
section
variable {base : Nat} {W0 : World} {β0 : Bt}
def J0 (k : Nat) (y8 : Int) (S : HS) : Option ((Int) × HS) :=
 some (y8,S)
theorem J0_snd {k : Nat}  {y8 : Int} {S : HS} {p : (Int) × HS} {Ga Gb Gc Gd Ge Gf Gg Gh Gj Gk Gl Gm Gn Go Gp Gq Gr Gs Gt Gu Gv Gw Gx Gy Gz Ka Kb Kc Kd Ke : HV} (h : J0 k y8 S = some p) : HRun Tryz.prog base W0 β0 11 none [.code c20] ⟨[Ga,Gb,Gc,Gd,Ge,Gf,Gg,Gh,(.int .i64 y8),Gj,Gk,Gl,Gm,Gn,Go,Gp,Gq,Gr,Gs,Gt,Gu,Gv,Gw,Gx,Gy,Gz,Ka,Kb,Kc,Kd,Ke],[]⟩ S (fun v S1 => v = (.int .i64 p.1) ∧ S1 = p.2) := by
 unfold J0 at h
 refine qQ rfl (qR rfl rfl (qS 30 rfl (oM · rfl) (qS 6 rfl (oA · rfl) (rE ?_))))
 try dsimp only [w0,w1,w2,w3]
 cases h
 exact q_ret rfl at_.at_ rfl (res1 rfl rfl) ⟨rfl,rfl⟩
def f (k : Nat) (x0 : (Option HA)) (x1 : Int) (x2 : (List UInt8)) (S : HS) : Option ((Int) × HS) :=
 (if (Option.isNone x0) = true then
 some (1,S) else
 (Option.bind (fold_Text.f k x2 S) fun p2 =>
 (Option.bind (x0) fun p3 =>
 (Option.bind (HS.ldP p2.2 (HA.fld p3 0)) fun p4 =>
 (Option.bind (pair_Rel_int_string_Add.f k p4 x1 p2.1 p2.2) fun p5 =>
 (if p5.1 = 0 then
 (Option.bind (x0) fun p7 =>
 (Option.bind (HS.ldM p5.2 (HA.fld p7 1)) fun p8 =>
 (Option.bind (HS.mput p5.2 p8 (.agg [(.int .i64 x1),(.str p2.1)]) (.str x2)) fun p9 =>
 J0 k p5.1 p9))) else
 J0 k p5.1 p5.2))))))
theorem snd {k : Nat} {x0 : (Option HA)} {x1 : Int} {x2 : (List UInt8)} {S : HS}  {p : (Int) × HS} (h : f k x0 x1 x2 S = some p) : HCall Tryz.prog base W0 β0 11 [(.ptr x0),(.int .i64 x1),(.str x2)] S (fun v S1 => v = (.int .i64 p.1) ∧ S1 = p.2) := by
 unfold f at h
 refine HCall.of_run at_.at_ body ?_
 show HRun Tryz.prog base W0 β0 11 none [.code c0] ⟨[(.ptr x0),(.int .i64 x1),(.str x2),τ,τ,τ,τ,τ,τ,τ,τ,τ,τ,τ,τ,τ,τ,τ,τ,τ,τ,τ,τ,τ,τ,τ,τ,τ,τ,τ,τ],[]⟩ S _
 refine qQ rfl (qR rfl rfl (qS 6 rfl (ok_assign · (.int _ _)) (rE ?_)))
 try dsimp only [w0,w1,w2,w3]
 refine qQ rfl (qQ rfl (qR rfl rfl (qS 9 rfl (oM · rfl) (qS 10 rfl (ok_nil_ptr · tu25 (.tmp rfl) (.inl ⟨rfl,rfl⟩)) (rE ?_)))))
 try dsimp only [w0,w1,w2,w3]
 rcases ifc h with ⟨hc1,h⟩ | ⟨hc1,h⟩
 ·refine q_cond_t rfl (.tmp rfl) hc1 (qQ rfl (qR rfl rfl (qS 6 rfl (ok_assign · (.int _ _)) (rE ?_))))
  try dsimp only [w0,w1,w2,w3]
  cases h
  exact q_ret rfl at_.at_ rfl (res1 rfl rfl) ⟨rfl,rfl⟩
 ·obtain ⟨p2,hp2,h⟩ := bindo h
  refine q_cond_f rfl (.tmp rfl) (bfalse hc1) (q_skipc rfl (qQ rfl (qR rfl rfl (qS 11 rfl (oM · rfl) (q_call (dst := some 12) rfl (.func _) (.cons (.tmp rfl) Evs.nil) (HInv.static fold_Text.at_ fold_Text.body (fold_Text.snd  hp2)) ?_)))))
  rintro _ _ ⟨rfl,rfl⟩
  refine qS 7 rfl (oA · rfl) (rE ?_)
  try dsimp only [w0,w1,w2,w3]
  obtain ⟨p3,hp3,h⟩ := bindo h
  obtain ⟨p4,hp4,h⟩ := bindo h
  refine qQ rfl (qR rfl rfl (qS 13 rfl (oM · rfl) (qS 14 rfl (oN · rfl hp3) (qS 15 rfl (oF · fi60_0 (by decide) rfl rfl) (qS 16 rfl (oL · sc55 rfl rfl (ldP_out hp4)) ?_)))))
  try dsimp only [w0,w1,w2,w3]
  obtain ⟨p5,hp5,h⟩ := bindo h
  refine qS 17 rfl (oM · rfl) (qS 18 rfl (oM · rfl) (q_call (dst := some 19) rfl (.func _) (.cons (.tmp rfl) (.cons (.tmp rfl) (.cons (.tmp rfl) Evs.nil))) (HInv.static pair_Rel_int_string_Add.at_ pair_Rel_int_string_Add.body (pair_Rel_int_string_Add.snd  hp5)) ?_))
  rintro _ _ ⟨rfl,rfl⟩
  refine qS 8 rfl (oA · rfl) (rE ?_)
  try dsimp only [w0,w1,w2,w3]
  refine qQ rfl (qQ rfl (qR rfl rfl (qS 20 rfl (oM · rfl) (qS 21 rfl (oC · rfl rfl) (rE ?_)))))
  try dsimp only [w0,w1,w2,w3]
  rcases ifc h with ⟨hc6,h⟩ | ⟨hc6,h⟩
  ·obtain ⟨p7,hp7,h⟩ := bindo h
   obtain ⟨p8,hp8,h⟩ := bindo h
   refine q_cond_t rfl (.tmp rfl) (decide_eq_true hc6) (qR rfl rfl (qS 22 rfl (oM · rfl) (qS 23 rfl (oN · rfl hp7) (qS 24 rfl (oF · fi60_1 (by decide) rfl rfl) (qS 25 rfl (oL · sc58 rfl rfl (ldM_out hp8)) ?_)))))
   try dsimp only [w0,w1,w2,w3]
   refine qS 26 rfl (oM · rfl) (qS 27 rfl (oM · rfl) (qS 28 rfl (ok_build (is := [0,1]) (xs := [(.tmp 26),(.tmp 27)]) (r := [(.int .i64 x1),(.str p2.1)]) st63 · rfl rfl (.cons (.tmp rfl) (.cons (.tmp rfl) Evs.nil)) rfl) (qS 29 rfl (oM · rfl) ?_)))
   try dsimp only [w0,w1,w2,w3]
   obtain ⟨p9,hp9,h⟩ := bindo h
   refine qN rfl (ok_mapUpdate · tu58 (keyStruct sk63 rfl) (.tmp rfl) (.tmp rfl) (.tmp rfl) hp9) (rE ?_)
   try dsimp only [w0,w1,w2,w3]
   try dsimp only [w0,w1,w2,w3]
   exact J0_snd  h
  ·refine q_cond_f rfl (.tmp rfl) (decide_eq_false hc6) (q_skipc rfl ?_)
   try dsimp only [w0,w1,w2,w3]
   exact J0_snd  h
end
end wish_Lists_Add
namespace rollcallref21_Lists_Add
theorem at_ : FnAt Tryz.prog 12 Tryz.f12 := ⟨Tryz.func12,by kernel_rfl⟩
noncomputable def d0 := (Tryz.f12.body).getD .skip
noncomputable def r1 := kR (kA d0)
noncomputable def r4 := kR (kA (kA (kB d0)))
noncomputable def r7 := kR (kA (kA (kB (kA (kB d0)))))
noncomputable def r12 := kR (kA (kA (kB (kB d0))))
noncomputable def r15 := kR (kA (kA (kB (kA (kB (kB d0))))))
noncomputable def r19 := kR (kA (kB (kB (kB d0))))
noncomputable def r21 := kR (kA (kB (kB (kB (kB d0)))))
noncomputable def c0 : Code := .seq (.region 0 r1 false) (.seq (.seq (.region 1 r4 false) (.cond (.tmp 11) (.seq (.region 2 r7 false) .ret) .skip)) (.seq (.seq (.region 3 r12 true) (.cond (.tmp 20) (.seq (.region 4 r15 false) .ret) .skip)) (.seq (.region 5 r19 false) (.seq (.region 6 r21 false) .ret))))
theorem body : Tryz.f12.body = some c0 := by kernel_rfl
section
variable {base : Nat} {W0 : World} {β0 : Bt}
def f (k : Nat) (x0 : (Option HA)) (x1 : Int) (x2 : (List UInt8)) (S : HS) : Option ((Int) × HS) :=
 (Option.bind (rollcallref21_Lists_At.f k x0 x1 x2 S) fun p1 =>
 (if p1.1 ≥ 0 then
 some (6,p1.2) else
 (Option.bind (rollcallref21_Lists_Of.f k x0 x1 p1.2) fun p3 =>
 (Option.bind (x0) fun p4 =>
 (Option.bind (HS.ldI p3.2 .i64 (HA.fld p4 0)) fun p5 =>
 (Option.bind (HS.ldI p1.2 .i64 (HA.fld p4 0)) fun p6 =>
 (if p6 = p5 then
 (if (Sl.len p3.1 : Int) ≥ p5 then
 some (7,p3.2) else
 (letv (HS.lit p3.2 [] 2) fun p9 =>
 (Option.bind (x0) fun p10 =>
 (Option.bind (HS.ldSl (p9.2) (HA.fld p10 1)) fun p11 =>
 (Option.bind (HS.rows (p9.2) p11 2) fun p12 =>
 (Option.bind (HS.app (p9.2) (p9.1) p12 2) fun p13 =>
 (letv (HS.lit (p13.2) [[(.int .i64 x1),(.str x2)]] 2) fun p14 =>
 (Option.bind (HS.rows (p14.2) (p14.1) 2) fun p15 =>
 (Option.bind (HS.app (p14.2) (p13.1) p15 2) fun p16 =>
 (Option.bind (x0) fun p17 =>
 (Option.bind (HS.sets (p16.2) (HA.fld p17 1) [(Sl.hv (p16.1))]) fun p18 =>
 some (0,p18)))))))))))) else none)))))))
theorem snd {k : Nat} {x0 : (Option HA)} {x1 : Int} {x2 : (List UInt8)} {S : HS}  {p : (Int) × HS} (h : f k x0 x1 x2 S = some p) : HCall Tryz.prog base W0 β0 12 [(.ptr x0),(.int .i64 x1),(.str x2)] S (fun v S1 => v = (.int .i64 p.1) ∧ S1 = p.2) := by
 unfold f at h
 refine HCall.of_run at_.at_ body ?_
 show HRun Tryz.prog base W0 β0 12 none [.code c0] ⟨[(.ptr x0),(.int .i64 x1),(.str x2),τ,τ,τ,τ,τ,τ,τ,τ,τ,τ,τ,τ,τ,τ,τ,τ,τ,τ,τ,τ,τ,τ,τ,τ,τ,τ,τ,τ,τ,τ,τ,τ],[]⟩ S _
 refine qQ rfl (qR rfl rfl (qS 6 rfl (ok_assign · (.int _ _)) (rE ?_)))
 try dsimp only [w0,w1,w2,w3]
 obtain ⟨p1,hp1,h⟩ := bindo h
 refine qQ rfl (qQ rfl (qR rfl rfl (qS 7 rfl (oM · rfl) (qS 8 rfl (oM · rfl) (qS 9 rfl (oM · rfl) (q_call (dst := some 10) rfl (.func _) (.cons (.tmp rfl) (.cons (.tmp rfl) (.cons (.tmp rfl) Evs.nil))) (HInv.static rollcallref21_Lists_At.at_ rollcallref21_Lists_At.body (rollcallref21_Lists_At.snd  hp1)) ?_))))))
 rintro _ _ ⟨rfl,rfl⟩
 try dsimp only [w0,w1,w2,w3]
 refine qS 11 rfl (oC · rfl rfl) (rE ?_)
 try dsimp only [w0,w1,w2,w3]
 rcases ifc h with ⟨hc2,h⟩ | ⟨hc2,h⟩
 ·refine q_cond_t rfl (.tmp rfl) (decide_eq_true hc2) (qQ rfl (qR rfl rfl (qS 6 rfl (ok_assign · (.int _ _)) (rE ?_))))
  try dsimp only [w0,w1,w2,w3]
  cases h
  exact q_ret rfl at_.at_ rfl (res1 rfl rfl) ⟨rfl,rfl⟩
 ·refine q_cond_f rfl (.tmp rfl) (decide_eq_false hc2) (q_skipc rfl (qQ rfl (qQ rfl ?_)))
  refine x_start (cls := [0,0,2,0,0,0,0,3,0]) (rk := [0,1,2,3,4,5,6,7,8]) rfl (by kernel_rfl) ?_
  refine xf 12 [0] rfl (oM · rfl) ?_
  refine xf 13 [1] rfl (oM · rfl) ?_
  obtain ⟨p3,hp3,h⟩ := bindo h
  refine x_goE (e_call (dst := some 14) (ts := [12,13]) rfl (by kernel_rfl) (.func _) (.cons (.tmp rfl) (.cons (.tmp rfl) Evs.nil)) (HInv.static rollcallref21_Lists_Of.at_ rollcallref21_Lists_Of.body (rollcallref21_Lists_Of.snd  hp3))) rfl trivial ?_
  refine xf 15 [14] rfl (ok_len_sl (q := Sl.a p3.1) (n := Sl.len p3.1) (z := Sl.cap p3.1) · rfl tu38 (.tmp rfl)) ?_
  try dsimp only [w0,w1,w2,w3]
  refine xf 16 [0] rfl (oM · rfl) ?_
  obtain ⟨p4,hp4,h⟩ := bindo h
  refine xf 17 [16] rfl (oN · rfl hp4) ?_
  refine xf 18 [17] rfl (oF · fi30_0 (by decide) rfl rfl) ?_
  obtain ⟨p5,hp5,h⟩ := bindo h
  obtain ⟨p6,hp6,h⟩ := bindo h
  obtain ⟨hg7,h⟩ := gd h
  refine x_late (r_op (dst := some 19) (ts := [18]) rfl (by intro _ _ h; cases h) (by kernel_rfl) (fun _ ho => ok_load_s ho sc3 (.tmp rfl) rfl (ldI_out hp5))) rfl ⟨.inr (l_op (dst := some 19) (ts := [18]) rfl (by intro _ _ h; cases h) (by kernel_rfl) (fun _ ho => ok_load_s ho sc3 (.tmp rfl) rfl (ldI_out (hp6.trans (congrArg some hg7))))),trivial⟩ ?_
  try dsimp only [w0,w1,w2,w3]
  refine xf 20 [15,19] rfl (oB · rfl rfl rfl) ?_
  refine x_rest rfl ?_
  refine rE ?_
  try dsimp only [w0,w1,w2,w3]
  rcases ifc h with ⟨hc8,h⟩ | ⟨hc8,h⟩
  ·refine q_cond_t rfl (.tmp rfl) (decide_eq_true hc8) (qQ rfl (qR rfl rfl (qS 6 rfl (ok_assign · (.int _ _)) (rE ?_))))
   try dsimp only [w0,w1,w2,w3]
   cases h
   exact q_ret rfl at_.at_ rfl (res1 rfl rfl) ⟨rfl,rfl⟩
  ·obtain ⟨p9,hp9,h⟩ := leto h
   obtain ⟨p10,hp10,h⟩ := bindo h
   refine q_cond_f rfl (.tmp rfl) (decide_eq_false hc8) (q_skipc rfl (qQ rfl (qR rfl rfl (qS 21 rfl (oM · rfl) (qS 22 rfl (ok_buildSlice_s (xs := []) el28 · rfl rfl (by decide) Evs.nil rfl rfl hp9) (qS 23 rfl (oM · rfl) (qS 24 rfl (oN · rfl hp10) ?_)))))))
   try dsimp only [w0,w1,w2,w3]
   obtain ⟨p11,hp11,h⟩ := bindo h
   obtain ⟨p12,hp12,h⟩ := bindo h
   obtain ⟨p13,hp13,h⟩ := bindo h
   refine qS 25 rfl (oF · fi30_1 (by decide) rfl rfl) (qS 26 rfl (oL · sc28 rfl rfl (ldSl_out hp11)) (qS 27 rfl (ok_append (s := (p9.1)) (s1 := p11) el28 · rfl rfl ⟨_,tu28⟩ (.tmp rfl) (.tmp rfl) hp12 hp13) (qS 28 rfl (oM · rfl) ?_)))
   try dsimp only [w0,w1,w2,w3]
   obtain ⟨p14,hp14,h⟩ := leto h
   obtain ⟨p15,hp15,h⟩ := bindo h
   obtain ⟨p16,hp16,h⟩ := bindo h
   refine qS 29 rfl (oM · rfl) (qS 30 rfl (ok_build (is := [0,1]) (xs := [(.tmp 28),(.tmp 29)]) (r := [(.int .i64 x1),(.str x2)]) st68 · rfl rfl (.cons (.tmp rfl) (.cons (.tmp rfl) Evs.nil)) rfl) (qS 31 rfl (ok_buildSlice_s (xs := [(.tmp 30)]) el28 · rfl rfl (by decide) (.cons (.tmp rfl) Evs.nil) rfl rfl hp14) (qS 32 rfl (ok_append (s := (p13.1)) (s1 := (p14.1)) el28 · rfl rfl ⟨_,tu28⟩ (.tmp rfl) (.tmp rfl) hp15 hp16) ?_)))
   try dsimp only [w0,w1,w2,w3]
   obtain ⟨p17,hp17,h⟩ := bindo h
   obtain ⟨p18,hp18,h⟩ := bindo h
   refine qS 33 rfl (oN · rfl hp17) (qS 34 rfl (oF · fi30_1 (by decide) rfl rfl) (qN rfl (ok_store_s (v := (Sl.hv (p16.1))) · sz28 (.tmp rfl) rfl (.tmp rfl) rfl hp18) (rE ?_)))
   try dsimp only [w0,w1,w2,w3]
   refine qQ rfl (qR rfl rfl (qS 6 rfl (ok_assign · (.int _ _)) (rE ?_)))
   try dsimp only [w0,w1,w2,w3]
   cases h
   exact q_ret rfl at_.at_ rfl (res1 rfl rfl) ⟨rfl,rfl⟩
end
end rollcallref21_Lists_Add
namespace rollcalllaw21_names
theorem at_ : FnAt Tryz.prog 13 Tryz.f13 := ⟨Tryz.func13,by kernel_rfl⟩
noncomputable def d0 := (Tryz.f13.body).getD .skip
noncomputable def r1 := kR (kA d0)
noncomputable def r3 := kR (kA (kB d0))
noncomputable def r5 := kR (kA (kB (kB d0)))
noncomputable def d6 := kB (kB (kB d0))
noncomputable def r8 := kR (kA (kA d6))
noncomputable def r11 := kR (kA (kA (kB (kA d6))))
noncomputable def r16 := kR (kA (kA (kB d6)))
noncomputable def d17 := kB (kA (kB d6))
noncomputable def r19 := kR (kA (kA d17))
noncomputable def r23 := kR (kA (kA (kA (kB (kA d17)))))
noncomputable def r26 := kR (kA (kA (kB (kA (kA (kB (kA d17)))))))
noncomputable def r29 := kR (kB (kA (kB (kA d17))))
noncomputable def r31 := kR (kA (kB (kB d6)))
noncomputable def c20 : Code := .block 1 (.seq (.seq (.region 7 r23 false) (.cond (.tmp 18) (.seq (.region 8 r26 false) .ret) .skip)) (.region 9 r29 false))
noncomputable def c19 : Code := .region 6 r19 false
noncomputable def c0 : Code := .seq (.region 0 r1 false) (.seq (.region 1 r3 false) (.seq (.region 2 r5 false) (.seq (.seq (.region 3 r8 false) (.cond (.tmp 13) (.seq (.region 4 r11 false) .ret) .skip)) (.seq (.seq (.region 5 r16 false) (.block 0 (.rangeFunc (.tmp 14) #[15] c19 c20))) (.seq (.region 10 r31 false) .ret)))))
theorem body : Tryz.f13.body = some c0 := by kernel_rfl
section
variable {base : Nat} {W0 : World} {β0 : Bt}
def J0 (D : Dp) (H : Hd) (l : Nat) (y4 : (Option HA)) (y5 : (Option HA)) (y6 : (Option HA)) (y15 : (List UInt8)) (S : HS) : Option (HV × HS) :=
 (Option.bind (HS.begin_ S l) fun p12 =>
 (Option.bind (y6) fun p13 =>
 (Option.bind (HS.ldSl p12 p13) fun p14 =>
 (if (Sl.len p14 : Int) > 99 then
 (Option.bind (y4) fun p16 =>
 (Option.bind (HS.sets p12 p16 [(Sl.hv Sl.nil)]) fun p17 =>
 (Option.bind (y5) fun p18 =>
 (Option.bind (HS.sets p17 p18 [(.bool false)]) fun p19 =>
 (HS.endr p19 l (some .ret)))))) else
 (Option.bind (y6) fun p20 =>
 (Option.bind (HS.ldSl p12 p20) fun p21 =>
 (letv (HS.lit p12 [[(.str y15)]] 1) fun p22 =>
 (Option.bind (HS.rows (p22.2) (p22.1) 1) fun p23 =>
 (Option.bind (HS.app (p22.2) p21 p23 1) fun p24 =>
 (Option.bind (y6) fun p25 =>
 (Option.bind (HS.sets (p24.2) p25 [(Sl.hv (p24.1))]) fun p26 =>
 (HS.endr p26 l none))))))))))))
theorem J0_snd {D : Dp} {H : Hd} {l : Nat} (hD : DSound Tryz.prog base W0 D) (hH : HSound Tryz.prog base W0 β0 H)  {y4 : (Option HA)} {y5 : (Option HA)} {y6 : (Option HA)} {y15 : (List UInt8)} {S : HS} {p : HV × HS} {Ga Gb Gc Gd Gh Gi Gj Gk Gl Gm Gn Go Gq Gr Gs Gt Gu Gv Gw Gx : HV} (h : J0 D H l y4 y5 y6 y15 S = some p) : HRun Tryz.prog base W0 β0 13 (some l) [.code c19,.beginRound,.code c20] ⟨[Ga,Gb,Gc,Gd,(.ptr y4),(.ptr y5),(.ptr y6),Gh,Gi,Gj,Gk,Gl,Gm,Gn,Go,(.str y15),Gq,Gr,Gs,Gt,Gu,Gv,Gw,Gx],[]⟩ S (fun v S1 => v = p.1 ∧ S1 = p.2) := by
 unfold J0 at h
 refine qR rfl rfl (qS 8 rfl (oA · rfl) (rE ?_))
 try dsimp only [w0,w1,w2,w3]
 obtain ⟨p12,hp12,h⟩ := bindo h
 refine q_begin hp12 ?_
 obtain ⟨p13,hp13,h⟩ := bindo h
 obtain ⟨p14,hp14,h⟩ := bindo h
 refine q_block rfl (qQ rfl (qQ rfl (qR rfl rfl (qS 16 rfl (oL · sc38 rfl hp13 (ldSl_out hp14)) (qS 17 rfl (ok_len_sl (q := Sl.a p14) (n := Sl.len p14) (z := Sl.cap p14) · rfl tu38 (.tmp rfl)) (qS 18 rfl (oC · rfl rfl) (rE ?_)))))))
 try dsimp only [w0,w1,w2,w3]
 rcases ifc h with ⟨hc15,h⟩ | ⟨hc15,h⟩
 ·obtain ⟨p16,hp16,h⟩ := bindo h
  obtain ⟨p17,hp17,h⟩ := bindo h
  obtain ⟨p18,hp18,h⟩ := bindo h
  obtain ⟨p19,hp19,h⟩ := bindo h
  refine q_cond_t rfl (.tmp rfl) (decide_eq_true hc15) (qQ rfl (qR rfl rfl (qN rfl (ok_store_s (v := (Sl.hv Sl.nil)) · sz38 (.tmp rfl) hp16 (.const fun _ => .slNil none) rfl hp17) (qN rfl (ok_store_s (v := (.bool false)) · sz4 (.tmp rfl) hp18 (.bool _) rfl hp19) (rE ?_)))))
  try dsimp only [w0,w1,w2,w3]
  exact q_round_ret rfl h ⟨rfl,rfl⟩
 ·obtain ⟨p20,hp20,h⟩ := bindo h
  obtain ⟨p21,hp21,h⟩ := bindo h
  obtain ⟨p22,hp22,h⟩ := leto h
  obtain ⟨p23,hp23,h⟩ := bindo h
  obtain ⟨p24,hp24,h⟩ := bindo h
  refine q_cond_f rfl (.tmp rfl) (decide_eq_false hc15) (q_skipc rfl (qR rfl rfl (qS 19 rfl (oL · sc38 rfl hp20 (ldSl_out hp21)) (qS 20 rfl (oM · rfl) (qS 21 rfl (ok_buildSlice_s (xs := [(.tmp 20)]) el38 · rfl rfl (by decide) (.cons (.tmp rfl) Evs.nil) rfl rfl hp22) (qS 22 rfl (ok_append (s := p21) (s1 := (p22.1)) el38 · rfl rfl ⟨_,tu38⟩ (.tmp rfl) (.tmp rfl) hp23 hp24) ?_))))))
  try dsimp only [w0,w1,w2,w3]
  obtain ⟨p25,hp25,h⟩ := bindo h
  obtain ⟨p26,hp26,h⟩ := bindo h
  refine qN rfl (ok_store_s (v := (Sl.hv (p24.1))) · sz38 (.tmp rfl) hp25 (.tmp rfl) rfl hp26) (rE ?_)
  try dsimp only [w0,w1,w2,w3]
  refine hr_inBlock ?_
  exact q_round_end h ⟨rfl,rfl⟩
def f (D : Dp) (H : Hd) (x0 : (Option HA)) (x1 : Int) (S : HS) : Option ((Sl × Bool) × HS) :=
 (letv (HS.new S (.cells 1 [[(Sl.hv Sl.nil)]] true)) fun p1 =>
 (letv (HS.new p1 (.cells 1 [[(.bool false)]] true)) fun p2 =>
 (letv (HS.new p2 (.cells 1 [[(Sl.hv Sl.nil)]] true)) fun p3 =>
 (Option.bind (wish_Lists_Of.f D H x0 x1 p3) fun p4 =>
 (Option.bind (HV.isNilFn p4.1) fun p5 =>
 (if (p5) = true then
 (Option.bind (HS.sets p4.2 (HA.cell0 S.next) [(Sl.hv Sl.nil)]) fun p7 =>
 (Option.bind (HS.sets p7 (HA.cell0 p1.next) [(.bool false)]) fun p8 =>
 (Option.bind (HS.leave p8 []) fun p9 =>
 (Option.bind (HS.ldSl p9 (HA.cell0 S.next)) fun p10 =>
 (Option.bind (HS.ldB p9 (HA.cell0 p1.next)) fun p11 =>
 some ((p10,p11),p9)))))) else
 (Option.bind (D (Hd.set H (HS.next p4.2 + 1) fun vs T =>
 (Option.bind (HS.lp T (HS.next p4.2 + 1)) fun u29 =>
 (Option.bind (args1 vs) fun ar27 =>
 (Option.bind (dS ar27) fun p28 =>
 (J0 D H (HS.next p4.2 + 1) (some (HA.cell0 S.next)) (some (HA.cell0 p1.next)) (some (HA.cell0 p2.next)) p28 T))))) p4.1 [.fn (.yield (HS.next p4.2 + 1)) [] []] (HS.new (HS.new p4.2 .defer) (.loop .ready none))) fun p30 =>
 (Option.bind (HS.finish p30.2 (HS.next p4.2 + 1)) fun p31 =>
 (Option.bind (pcode p31.1) fun n32 =>
 (if n32 = 0 then
 (Option.bind (HS.ldSl p31.2 (HA.cell0 p2.next)) fun p34 =>
 (Option.bind (HS.sets p31.2 (HA.cell0 S.next) [(Sl.hv p34)]) fun p35 =>
 (Option.bind (HS.sets p35 (HA.cell0 p1.next) [(.bool true)]) fun p36 =>
 (Option.bind (HS.leave p36 (HS.next p4.2 :: [])) fun p37 =>
 (Option.bind (HS.ldSl p37 (HA.cell0 S.next)) fun p38 =>
 (Option.bind (HS.ldB p37 (HA.cell0 p1.next)) fun p39 =>
 some ((p38,p39),p37))))))) else
 (if n32 = 1 then
 (Option.bind (HS.leave p31.2 (HS.next p4.2 :: [])) fun p41 =>
 (Option.bind (HS.ldSl p41 (HA.cell0 S.next)) fun p42 =>
 (Option.bind (HS.ldB p41 (HA.cell0 p1.next)) fun p43 =>
 some ((p42,p43),p41)))) else
 none)))))))))))
theorem snd {D : Dp} {H : Hd} {x0 : (Option HA)} {x1 : Int} {S : HS} (hD : DSound Tryz.prog base W0 D) (hH : HSound Tryz.prog base W0 β0 H)  {p : (Sl × Bool) × HS} (h : f D H x0 x1 S = some p) : HCall Tryz.prog base W0 β0 13 [(.ptr x0),(.int .i64 x1)] S (fun v S1 => v = (.tup [(Sl.hv p.1.1),(.bool p.1.2)]) ∧ S1 = p.2) := by
 unfold f at h
 refine HCall.of_run at_.at_ body ?_
 show HRun Tryz.prog base W0 β0 13 none [.code c0] ⟨[(.ptr x0),(.int .i64 x1),τ,τ,τ,τ,τ,τ,τ,τ,τ,τ,τ,τ,τ,τ,τ,τ,τ,τ,τ,τ,τ,τ],[]⟩ S _
 obtain ⟨p1,hp1,h⟩ := leto h
 obtain ⟨p2,hp2,h⟩ := leto h
 refine qQ rfl (qR rfl rfl (qS 4 rfl (ok_alloc_e · zi38 zr38 (by decide) rfl hp1) (qS 5 rfl (ok_alloc_e · zi4 zr4 (by decide) rfl hp2) (rE ?_))))
 try dsimp only [w0,w1,w2,w3]
 obtain ⟨p3,hp3,h⟩ := leto h
 refine qQ rfl (qR rfl rfl (qS 6 rfl (ok_alloc_e · zi38 zr38 (by decide) rfl hp3) (rE ?_)))
 try dsimp only [w0,w1,w2,w3]
 obtain ⟨p4,hp4,h⟩ := bindo h
 refine qQ rfl (qR rfl rfl (qS 9 rfl (oM · rfl) (qS 10 rfl (oM · rfl) (q_call (dst := some 11) rfl (.func _) (.cons (.tmp rfl) (.cons (.tmp rfl) Evs.nil)) (HInv.static wish_Lists_Of.at_ wish_Lists_Of.body (wish_Lists_Of.snd hD hH hp4)) ?_))))
 rintro _ _ ⟨rfl,rfl⟩
 refine qS 7 rfl (oA · rfl) (rE ?_)
 try dsimp only [w0,w1,w2,w3]
 obtain ⟨p5,hp5,h⟩ := bindo h
 refine qQ rfl (qQ rfl (qR rfl rfl (qS 12 rfl (oM · rfl) (qS 13 rfl (ok_nil_fn · tu65 (.tmp rfl) hp5 (.inl ⟨rfl,rfl⟩)) (rE ?_)))))
 try dsimp only [w0,w1,w2,w3]
 rcases ifc h with ⟨hc6,h⟩ | ⟨hc6,h⟩
 ·obtain ⟨p7,hp7,h⟩ := bindo h
  obtain ⟨p8,hp8,h⟩ := bindo h
  refine q_cond_t rfl (.tmp rfl) hc6 (qQ rfl (qR rfl rfl (qN rfl (ok_store_s (v := (Sl.hv Sl.nil)) · sz38 (.tmp rfl) rfl (.const fun _ => .slNil none) rfl hp7) (qN rfl (ok_store_s (v := (.bool false)) · sz4 (.tmp rfl) rfl (.bool _) rfl hp8) (rE ?_)))))
  try dsimp only [w0,w1,w2,w3]
  obtain ⟨p9,hp9,h⟩ := bindo h
  obtain ⟨p10,hp10,h⟩ := bindo h
  obtain ⟨p11,hp11,h⟩ := bindo h
  cases h
  exact q_ret rfl at_.at_ hp9 (resL (rs := [.cell 4 38,.cell 5 4]) rfl (.cons (.cell rfl rfl sc38 (ldSl_out hp10)) (.cons (.cell rfl rfl sc4 (ldB_out hp11)) .nil)) (by simp)) ⟨rfl,rfl⟩
 ·refine q_cond_f rfl (.tmp rfl) (bfalse hc6) (q_skipc rfl (qQ rfl (qQ rfl (qR rfl rfl (qS 14 rfl (oM · rfl) (rE ?_))))))
  try dsimp only [w0,w1,w2,w3]
  obtain ⟨p30,hp30,h⟩ := bindo h
  obtain ⟨p31,hp31,h⟩ := bindo h
  obtain ⟨n32,hn32,h⟩ := bindo h
  refine q_block rfl ?_
  refine q_range (D := D) (H := H) rfl (.tmp rfl) hD hH hp30 hp31 ?_ ?_
  ·intro β1 hle hLA vs T u T' hr
   obtain ⟨u29,hu29,hr⟩ := bindo hr
   obtain ⟨ar27,har27,hr⟩ := bindo hr
   obtain ⟨p28,hp28,hr⟩ := bindo hr
   rw [args1_out har27]
   refine q_yield2 hLA hu29 rfl rfl ?_
   rw [dS_out hp28]
   simp only [HAct.params,List.set_cons_zero,List.set_cons_succ]
   exact J0_snd hD (hH.up hle) hr
  ·rcases ifc h with ⟨hc33,h⟩ | ⟨hc33,h⟩
   ·rw [pcode0 hn32 hc33]
    simp only [jumped_none,jumped_some]
    obtain ⟨p34,hp34,h⟩ := bindo h
    obtain ⟨p35,hp35,h⟩ := bindo h
    obtain ⟨p36,hp36,h⟩ := bindo h
    refine hr_inBlock (qQ rfl (qR rfl rfl (qS 23 rfl (oL · sc38 rfl rfl (ldSl_out hp34)) (qN rfl (ok_store_s (v := (Sl.hv p34)) · sz38 (.tmp rfl) rfl (.tmp rfl) rfl hp35) (qN rfl (ok_store_s (v := (.bool true)) · sz4 (.tmp rfl) rfl (.bool _) rfl hp36) (rE ?_))))))
    try dsimp only [w0,w1,w2,w3]
    obtain ⟨p37,hp37,h⟩ := bindo h
    obtain ⟨p38,hp38,h⟩ := bindo h
    obtain ⟨p39,hp39,h⟩ := bindo h
    cases h
    exact q_ret rfl at_.at_ hp37 (resL (rs := [.cell 4 38,.cell 5 4]) rfl (.cons (.cell rfl rfl sc38 (ldSl_out hp38)) (.cons (.cell rfl rfl sc4 (ldB_out hp39)) .nil)) (by simp)) ⟨rfl,rfl⟩
   ·rcases ifc h with ⟨hc40,h⟩ | ⟨hc40,h⟩
    ·rw [pcode1 hn32 hc40]
     simp only [jumped_none,jumped_some]
     obtain ⟨p41,hp41,h⟩ := bindo h
     obtain ⟨p42,hp42,h⟩ := bindo h
     obtain ⟨p43,hp43,h⟩ := bindo h
     cases h
     exact q_ret rfl at_.at_ hp41 (resL (rs := [.cell 4 38,.cell 5 4]) rfl (.cons (.cell rfl rfl sc38 (ldSl_out hp42)) (.cons (.cell rfl rfl sc4 (ldB_out hp43)) .nil)) (by simp)) ⟨rfl,rfl⟩
    ·cases h
end
end rollcalllaw21_names
namespace wish_Lists_By_1
theorem at_ : FnAt Tryz.prog 45 Tryz.f45 := ⟨Tryz.func45,by kernel_rfl⟩
noncomputable def c0 : Code := .skip
theorem body : Tryz.f45.body = some c0 := by kernel_rfl
section
variable {base : Nat} {W0 : World} {β0 : Bt}
def f (x0 : HV) : Option (Unit) :=
 some ()
theorem snd {x0 : HV} {S : HS}  {p : Unit} (h : f x0 = some p) : HCall Tryz.prog base W0 β0 45 [x0] S (fun v S1 => v = (.tup []) ∧ S1 = S) := by
 unfold f at h
 refine HCall.of_run at_.at_ body ?_
 show HRun Tryz.prog base W0 β0 45 none [.code c0] ⟨[x0,τ],[]⟩ S _
 cases h
 exact q_skipc rfl (q_end at_.at_ rfl (res0 rfl) ⟨rfl,rfl⟩)
end
end wish_Lists_By_1
namespace pair_Rel_int_string_By_1
theorem at_ : FnAt Tryz.prog 64 Tryz.f64 := ⟨Tryz.func64,by kernel_rfl⟩
noncomputable def c0 : Code := .skip
theorem body : Tryz.f64.body = some c0 := by kernel_rfl
section
variable {base : Nat} {W0 : World} {β0 : Bt}
def f (x0 : HV) : Option (Unit) :=
 some ()
theorem snd {x0 : HV} {S : HS}  {p : Unit} (h : f x0 = some p) : HCall Tryz.prog base W0 β0 64 [x0] S (fun v S1 => v = (.tup []) ∧ S1 = S) := by
 unfold f at h
 refine HCall.of_run at_.at_ body ?_
 show HRun Tryz.prog base W0 β0 64 none [.code c0] ⟨[x0,τ],[]⟩ S _
 cases h
 exact q_skipc rfl (q_end at_.at_ rfl (res0 rfl) ⟨rfl,rfl⟩)
end
end pair_Rel_int_string_By_1
namespace slices_Clone_int_int
theorem at_ : FnAt Tryz.prog 100 Tryz.f100 := ⟨Tryz.func100,by kernel_rfl⟩
noncomputable def d0 := (Tryz.f100.body).getD .skip
noncomputable def r1 := kR (kA d0)
noncomputable def r4 := kR (kA (kA (kB d0)))
noncomputable def r7 := kR (kA (kA (kB (kA (kB d0)))))
noncomputable def r11 := kR (kA (kB (kB d0)))
noncomputable def c0 : Code := .seq (.region 0 r1 false) (.seq (.seq (.region 1 r4 false) (.cond (.tmp 4) (.seq (.region 2 r7 false) .ret) .skip)) (.seq (.region 3 r11 false) .ret))
theorem body : Tryz.f100.body = some c0 := by kernel_rfl
section
variable {base : Nat} {W0 : World} {β0 : Bt}
def f (x0 : Sl) (S : HS) : Option ((Sl) × HS) :=
 (if (Option.isNone (Sl.a x0)) = true then
 some (Sl.nil,S) else
 (letv (HS.lit S [] 1) fun p2 =>
 (Option.bind (HS.rows (p2.2) x0 1) fun p3 =>
 (Option.bind (HS.app (p2.2) (p2.1) p3 1) fun p4 =>
 some ((p4.1),(p4.2))))))
theorem snd {x0 : Sl} {S : HS}  {p : (Sl) × HS} (h : f x0 S = some p) : HCall Tryz.prog base W0 β0 100 [(Sl.hv x0)] S (fun v S1 => v = (Sl.hv p.1) ∧ S1 = p.2) := by
 unfold f at h
 refine HCall.of_run at_.at_ body ?_
 show HRun Tryz.prog base W0 β0 100 none [.code c0] ⟨[(Sl.hv x0),τ,τ,τ,τ,τ,τ,τ],[]⟩ S _
 refine qQ rfl (qR rfl rfl (qS 2 rfl (ok_assign · (.const fun _ => .slNil none)) (rE ?_)))
 try dsimp only [w0,w1,w2,w3]
 refine qQ rfl (qQ rfl (qR rfl rfl (qS 3 rfl (oM · rfl) (qS 4 rfl (ok_nil_sl · tu41 (.tmp rfl) (.inl ⟨rfl,rfl⟩)) (rE ?_)))))
 try dsimp only [w0,w1,w2,w3]
 rcases ifc h with ⟨hc1,h⟩ | ⟨hc1,h⟩
 ·refine q_cond_t rfl (.tmp rfl) hc1 (qQ rfl (qR rfl rfl (qS 2 rfl (ok_assign · (.const fun _ => .slNil none)) (rE ?_))))
  try dsimp only [w0,w1,w2,w3]
  cases h
  exact q_ret rfl at_.at_ rfl (res1 rfl rfl) ⟨rfl,rfl⟩
 ·obtain ⟨p2,hp2,h⟩ := leto h
  obtain ⟨p3,hp3,h⟩ := bindo h
  obtain ⟨p4,hp4,h⟩ := bindo h
  refine q_cond_f rfl (.tmp rfl) (bfalse hc1) (q_skipc rfl (qQ rfl (qR rfl rfl (qS 5 rfl (ok_buildSlice_s (xs := []) el41 · rfl rfl (by decide) Evs.nil rfl rfl hp2) (qS 6 rfl (oM · rfl) (qS 7 rfl (ok_append (s := (p2.1)) (s1 := x0) el41 · rfl rfl ⟨_,tu41⟩ (.tmp rfl) (.tmp rfl) hp3 hp4) (qS 2 rfl (oA · rfl) (rE ?_))))))))
  try dsimp only [w0,w1,w2,w3]
  cases h
  exact q_ret rfl at_.at_ rfl (res1 rfl rfl) ⟨rfl,rfl⟩
end
end slices_Clone_int_int
namespace set_Set_int_List
theorem at_ : FnAt Tryz.prog 81 Tryz.f81 := ⟨Tryz.func81,by kernel_rfl⟩
noncomputable def d0 := (Tryz.f81.body).getD .skip
noncomputable def r1 := kR (kA d0)
noncomputable def r4 := kR (kA (kA (kB d0)))
noncomputable def r7 := kR (kA (kA (kB (kA (kB d0)))))
noncomputable def r11 := kR (kA (kB (kB d0)))
noncomputable def c0 : Code := .seq (.region 0 r1 false) (.seq (.seq (.region 1 r4 false) (.cond (.tmp 4) (.seq (.region 2 r7 false) .ret) .skip)) (.seq (.region 3 r11 false) .ret))
theorem body : Tryz.f81.body = some c0 := by kernel_rfl
section
variable {base : Nat} {W0 : World} {β0 : Bt}
def f (x0 : (Option HA)) (S : HS) : Option ((Sl) × HS) :=
 (if (Option.isNone x0) = true then
 some (Sl.nil,S) else
 (Option.bind (x0) fun p2 =>
 (Option.bind (HS.ldSl S (HA.fld p2 0)) fun p3 =>
 (Option.bind (slices_Clone_int_int.f p3 S) fun p4 =>
 some (p4.1,p4.2)))))
theorem snd {x0 : (Option HA)} {S : HS}  {p : (Sl) × HS} (h : f x0 S = some p) : HCall Tryz.prog base W0 β0 81 [(.ptr x0)] S (fun v S1 => v = (Sl.hv p.1) ∧ S1 = p.2) := by
 unfold f at h
 refine HCall.of_run at_.at_ body ?_
 show HRun Tryz.prog base W0 β0 81 none [.code c0] ⟨[(.ptr x0),τ,τ,τ,τ,τ,τ,τ,τ,τ],[]⟩ S _
 refine qQ rfl (qR rfl rfl (qS 2 rfl (ok_assign · (.const fun _ => .slNil none)) (rE ?_)))
 try dsimp only [w0,w1,w2,w3]
 refine qQ rfl (qQ rfl (qR rfl rfl (qS 3 rfl (oM · rfl) (qS 4 rfl (ok_nil_ptr · tu96 (.tmp rfl) (.inl ⟨rfl,rfl⟩)) (rE ?_)))))
 try dsimp only [w0,w1,w2,w3]
 rcases ifc h with ⟨hc1,h⟩ | ⟨hc1,h⟩
 ·refine q_cond_t rfl (.tmp rfl) hc1 (qQ rfl (qR rfl rfl (qS 2 rfl (ok_assign · (.const fun _ => .slNil none)) (rE ?_))))
  try dsimp only [w0,w1,w2,w3]
  cases h
  exact q_ret rfl at_.at_ rfl (res1 rfl rfl) ⟨rfl,rfl⟩
 ·obtain ⟨p2,hp2,h⟩ := bindo h
  obtain ⟨p3,hp3,h⟩ := bindo h
  refine q_cond_f rfl (.tmp rfl) (bfalse hc1) (q_skipc rfl (qQ rfl (qR rfl rfl (qS 5 rfl (oM · rfl) (qS 6 rfl (oN · rfl hp2) (qS 7 rfl (oF · fi112_0 (by decide) rfl rfl) (qS 8 rfl (oL · sc41 rfl rfl (ldSl_out hp3)) ?_)))))))
  try dsimp only [w0,w1,w2,w3]
  obtain ⟨p4,hp4,h⟩ := bindo h
  refine q_call (dst := some 9) rfl (.func _) (.cons (.tmp rfl) Evs.nil) (HInv.static slices_Clone_int_int.at_ slices_Clone_int_int.body (slices_Clone_int_int.snd  hp4)) ?_
  rintro _ _ ⟨rfl,rfl⟩
  refine qS 2 rfl (oA · rfl) (rE ?_)
  try dsimp only [w0,w1,w2,w3]
  cases h
  exact q_ret rfl at_.at_ rfl (res1 rfl rfl) ⟨rfl,rfl⟩
end
end set_Set_int_List
namespace slices_Values_int_int_1
theorem at_ : FnAt Tryz.prog 99 Tryz.f99 := ⟨Tryz.func99,by kernel_rfl⟩
noncomputable def d0 := (Tryz.f99.body).getD .skip
noncomputable def r1 := kR (kA d0)
noncomputable def d4 := kA (kA (kB d0))
noncomputable def r5 := kR (kA d4)
noncomputable def r13 := kR (kA (kA (kA (kB (kB d4)))))
noncomputable def r15 := kR (kA (kB (kA (kA (kB (kB d4))))))
noncomputable def r19 := kR (kB (kB (kB d4)))
noncomputable def c4 : Code := .seq (.region 1 r5 false) (.seq (.cond (.tmp 8) .skip (.exit 0)) (.seq (.block 1 (.seq (.region 2 r13 false) (.seq (.region 3 r15 false) (.cond (.tmp 14) .ret .skip)))) (.region 4 r19 false)))
noncomputable def c0 : Code := .seq (.region 0 r1 false) (.block 0 (.loop c4))
theorem body : Tryz.f99.body = some c0 := by kernel_rfl
section
variable {base : Nat} {W0 : World} {β0 : Bt}
def L0 (D : Dp) (H : Hd) (k : Nat) : Nat → HV → Sl → Int → Int → HS → Option ((Unit) × HS)
 | 0,_,_,_,_,_ => none
 | n + 1,y0,y5,y6,y7,S =>
  (if y7 < y6 then
  (Option.bind (HS.idx S y5 y7 1) fun p4 =>
  (Option.bind (HS.ldI S .i64 p4) fun p5 =>
  (Option.bind (D H y0 [(.int .i64 p5)] S) fun p6 =>
  (Option.bind (dB p6.1) fun p7 =>
  (if (!p7) = true then
  some ((),p6.2) else
  (L0 D H k n) y0 y5 y6 (w64 (y7 + 1)) p6.2))))) else
  some ((),S))
theorem L0_snd {D : Dp} {H : Hd} {k : Nat} (hD : DSound Tryz.prog base W0 D) (hH : HSound Tryz.prog base W0 β0 H)  : ∀ {n : Nat} ⦃y0 : HV⦄ ⦃y5 : Sl⦄ ⦃y6 : Int⦄ ⦃y7 : Int⦄ ⦃S : HS⦄ ⦃p : (Unit) × HS⦄ ⦃Gb Gc Gd Ge Gi Gj Gk Gl Gm Gn Go Gp : HV⦄,L0 D H k n y0 y5 y6 y7 S = some p → HRun Tryz.prog base W0 β0 99 none [.inLoop c4,.inBlock 0] ⟨[y0,Gb,Gc,Gd,Ge,(Sl.hv y5),(.int .i64 y6),(.int .i64 y7),Gi,Gj,Gk,Gl,Gm,Gn,Go,Gp],[]⟩ S (fun v S1 => v = (.tup []) ∧ S1 = p.2) := by
 intro n
 induction n with
 | zero => intro _ _ _ _ _ _ _ _ _ _ _ _ _ _ _ _ _ _ h; cases h
 | succ n ih =>
  intro y0 y5 y6 y7 S p Gb Gc Gd Ge Gi Gj Gk Gl Gm Gn Go Gp h
  simp only [L0] at h
  refine hr_inLoop (qQ rfl (qR rfl rfl (qS 8 rfl (oB · rfl rfl rfl) (rE ?_))))
  try dsimp only [w0,w1,w2,w3]
  refine qQ rfl ?_
  rcases ifc h with ⟨hc3,h⟩ | ⟨hc3,h⟩
  ·obtain ⟨p4,hp4,h⟩ := bindo h
   obtain ⟨p5,hp5,h⟩ := bindo h
   refine q_cond_t rfl (.tmp rfl) (decide_eq_true hc3) (q_skipc rfl (qQ rfl (q_block rfl (qQ rfl (qR rfl rfl (qS 9 rfl (oX (s := y5) · tu41 sz3 rfl rfl hp4) (qS 10 rfl (oL · sc3 rfl rfl (ldI_out hp5)) (qS 4 rfl (oA · rfl) (rE ?_)))))))))
   try dsimp only [w0,w1,w2,w3]
   obtain ⟨p6,hp6,h⟩ := bindo h
   obtain ⟨p7,hp7,h⟩ := bindo h
   refine qQ rfl (qR rfl rfl (qS 11 rfl (oM · rfl) (qS 12 rfl (oM · rfl) (q_call (dst := some 13) rfl (.tmp rfl) (.cons (.tmp rfl) Evs.nil) (hD _ _ hH _ _ _ _ _ hp6) ?_))))
   rintro _ _ ⟨rfl,rfl⟩
   rw [dB_out hp7]
   refine qS 14 rfl (ok_not · (.tmp rfl)) (rE ?_)
   try dsimp only [w0,w1,w2,w3]
   rcases ifc h with ⟨hc8,h⟩ | ⟨hc8,h⟩
   ·cases h
    exact q_cond_t rfl (.tmp rfl) hc8 (q_ret rfl at_.at_ rfl (res0 rfl) ⟨rfl,rfl⟩)
   ·refine q_cond_f rfl (.tmp rfl) (bfalse hc8) (q_skipc rfl (hr_inBlock (qR rfl rfl (qS 15 rfl (oC · rfl rfl) (qS 7 rfl (oM · rfl) (rE ?_))))))
    try dsimp only [w0,w1,w2,w3]
    try dsimp only [w0,w1,w2,w3]
    exact ih h
  ·cases h
   exact q_cond_f rfl (.tmp rfl) (decide_eq_false hc3) (q_exit rfl rfl (q_end at_.at_ rfl (res0 rfl) ⟨rfl,rfl⟩))
def f (D : Dp) (H : Hd) (k : Nat) (x0 : HV) (x1 : (Option HA)) (S : HS) : Option ((Unit) × HS) :=
 (Option.bind (x1) fun p1 =>
 (Option.bind (HS.ldSl S p1) fun p2 =>
 L0 D H k k x0 p2 (Sl.len p2 : Int) 0 S))
theorem snd {D : Dp} {H : Hd} {k : Nat} {x0 : HV} {x1 : (Option HA)} {S : HS} (hD : DSound Tryz.prog base W0 D) (hH : HSound Tryz.prog base W0 β0 H)  {p : (Unit) × HS} (h : f D H k x0 x1 S = some p) : HCall Tryz.prog base W0 β0 99 [x0,(.ptr x1)] S (fun v S1 => v = (.tup []) ∧ S1 = p.2) := by
 unfold f at h
 refine HCall.of_run at_.at_ body ?_
 show HRun Tryz.prog base W0 β0 99 none [.code c0] ⟨[x0,(.ptr x1),τ,τ,τ,τ,τ,τ,τ,τ,τ,τ,τ,τ,τ,τ],[]⟩ S _
 obtain ⟨p1,hp1,h⟩ := bindo h
 obtain ⟨p2,hp2,h⟩ := bindo h
 refine qQ rfl (qR rfl rfl (qS 5 rfl (oL · sc41 rfl hp1 (ldSl_out hp2)) (qS 6 rfl (ok_len_sl (q := Sl.a p2) (n := Sl.len p2) (z := Sl.cap p2) · rfl tu41 (.tmp rfl)) (qS 7 rfl (ok_move · (.int _ _)) (rE ?_)))))
 try dsimp only [w0,w1,w2,w3]
 refine q_block rfl (q_loop rfl ?_)
 try dsimp only [w0,w1,w2,w3]
 exact L0_snd hD hH h
end
end slices_Values_int_int_1
namespace slices_Values_int_int
theorem at_ : FnAt Tryz.prog 80 Tryz.f80 := ⟨Tryz.func80,by kernel_rfl⟩
noncomputable def d0 := (Tryz.f80.body).getD .skip
noncomputable def r1 := kR (kA d0)
noncomputable def r3 := kR (kA (kB d0))
noncomputable def c0 : Code := .seq (.region 0 r1 false) (.seq (.region 1 r3 false) .ret)
theorem body : Tryz.f80.body = some c0 := by kernel_rfl
section
variable {base : Nat} {W0 : World} {β0 : Bt}
def f (x0 : Sl) (S : HS) : Option ((HV) × HS) :=
 (letv (HS.new S (.cells 1 [[(Sl.hv x0)]] true)) fun p1 =>
 some ((HV.fn (.func 99) [] [(.ptr (some (HA.cell0 S.next)))]),p1))
theorem snd {x0 : Sl} {S : HS}  {p : (HV) × HS} (h : f x0 S = some p) : HCall Tryz.prog base W0 β0 80 [(Sl.hv x0)] S (fun v S1 => v = p.1 ∧ S1 = p.2) := by
 unfold f at h
 refine HCall.of_run at_.at_ body ?_
 show HRun Tryz.prog base W0 β0 80 none [.code c0] ⟨[(Sl.hv x0),τ,τ,τ],[]⟩ S _
 obtain ⟨p1,hp1,h⟩ := leto h
 refine qQ rfl (qR rfl rfl (qS 1 rfl (ok_box_e · (.tmp rfl) (Nat.zero_lt_succ _) rfl hp1) (qS 2 rfl (ok_assign · (.const fun _ => .nilFn)) (rE ?_))))
 try dsimp only [w0,w1,w2,w3]
 refine qQ rfl (qR rfl rfl (qS 3 rfl (ok_makeFunc · Evs.nil (.cons (.tmp rfl) Evs.nil)) (qS 2 rfl (oA · rfl) (rE ?_))))
 try dsimp only [w0,w1,w2,w3]
 cases h
 exact q_ret rfl at_.at_ rfl (res1 rfl rfl) ⟨rfl,rfl⟩
end
end slices_Values_int_int
namespace set_Set_int_All
theorem at_ : FnAt Tryz.prog 65 Tryz.f65 := ⟨Tryz.func65,by kernel_rfl⟩
noncomputable def d0 := (Tryz.f65.body).getD .skip
noncomputable def r1 := kR (kA d0)
noncomputable def r3 := kR (kA (kB d0))
noncomputable def c0 : Code := .seq (.region 0 r1 false) (.seq (.region 1 r3 false) .ret)
theorem body : Tryz.f65.body = some c0 := by kernel_rfl
section
variable {base : Nat} {W0 : World} {β0 : Bt}
def f (x0 : (Option HA)) (S : HS) : Option ((HV) × HS) :=
 (Option.bind (set_Set_int_List.f x0 S) fun p1 =>
 (Option.bind (slices_Values_int_int.f p1.1 p1.2) fun p2 =>
 some (p2.1,p2.2)))
theorem snd {x0 : (Option HA)} {S : HS}  {p : (HV) × HS} (h : f x0 S = some p) : HCall Tryz.prog base W0 β0 65 [(.ptr x0)] S (fun v S1 => v = p.1 ∧ S1 = p.2) := by
 unfold f at h
 refine HCall.of_run at_.at_ body ?_
 show HRun Tryz.prog base W0 β0 65 none [.code c0] ⟨[(.ptr x0),τ,τ,τ,τ,τ],[]⟩ S _
 refine qQ rfl (qR rfl rfl (qS 2 rfl (ok_assign · (.const fun _ => .nilFn)) (rE ?_)))
 try dsimp only [w0,w1,w2,w3]
 obtain ⟨p1,hp1,h⟩ := bindo h
 refine qQ rfl (qR rfl rfl (qS 3 rfl (oM · rfl) (q_call (dst := some 4) rfl (.func _) (.cons (.tmp rfl) Evs.nil) (HInv.static set_Set_int_List.at_ set_Set_int_List.body (set_Set_int_List.snd  hp1)) ?_)))
 rintro _ _ ⟨rfl,rfl⟩
 obtain ⟨p2,hp2,h⟩ := bindo h
 refine q_call (dst := some 5) rfl (.func _) (.cons (.tmp rfl) Evs.nil) (HInv.static slices_Values_int_int.at_ slices_Values_int_int.body (slices_Values_int_int.snd  hp2)) ?_
 rintro _ _ ⟨rfl,rfl⟩
 refine qS 2 rfl (oA · rfl) (rE ?_)
 try dsimp only [w0,w1,w2,w3]
 cases h
 exact q_ret rfl at_.at_ rfl (res1 rfl rfl) ⟨rfl,rfl⟩
end
end set_Set_int_All
namespace pair_Rel_int_string_By
theorem at_ : FnAt Tryz.prog 46 Tryz.f46 := ⟨Tryz.func46,by kernel_rfl⟩
noncomputable def d0 := (Tryz.f46.body).getD .skip
noncomputable def r1 := kR (kA d0)
noncomputable def r4 := kR (kA (kA (kB d0)))
noncomputable def r7 := kR (kA (kA (kB (kA (kB d0)))))
noncomputable def r11 := kR (kA (kB (kB d0)))
noncomputable def c0 : Code := .seq (.region 0 r1 false) (.seq (.seq (.region 1 r4 false) (.cond (.tmp 6) (.seq (.region 2 r7 false) .ret) .skip)) (.seq (.region 3 r11 false) .ret))
theorem body : Tryz.f46.body = some c0 := by kernel_rfl
section
variable {base : Nat} {W0 : World} {β0 : Bt}
def f (x0 : (Option HA)) (x1 : (List UInt8)) (S : HS) : Option ((HV) × HS) :=
 (if (Option.isNone x0) = true then
 some ((HV.fn (.func 64) [] []),S) else
 (Option.bind (x0) fun p2 =>
 (Option.bind (HS.ldM S (HA.fld p2 3)) fun p3 =>
 (Option.bind (HS.look S p3 (.str x1)) fun p4 =>
 (Option.bind (dP (Option.getD p4 (.ptr none))) fun p5 =>
 (Option.bind (set_Set_int_All.f p5 S) fun p6 =>
 some (p6.1,p6.2)))))))
theorem snd {x0 : (Option HA)} {x1 : (List UInt8)} {S : HS}  {p : (HV) × HS} (h : f x0 x1 S = some p) : HCall Tryz.prog base W0 β0 46 [(.ptr x0),(.str x1)] S (fun v S1 => v = p.1 ∧ S1 = p.2) := by
 unfold f at h
 refine HCall.of_run at_.at_ body ?_
 show HRun Tryz.prog base W0 β0 46 none [.code c0] ⟨[(.ptr x0),(.str x1),τ,τ,τ,τ,τ,τ,τ,τ,τ,τ,τ,τ],[]⟩ S _
 refine qQ rfl (qR rfl rfl (qS 4 rfl (ok_assign · (.const fun _ => .nilFn)) (rE ?_)))
 try dsimp only [w0,w1,w2,w3]
 refine qQ rfl (qQ rfl (qR rfl rfl (qS 5 rfl (oM · rfl) (qS 6 rfl (ok_nil_ptr · tu55 (.tmp rfl) (.inl ⟨rfl,rfl⟩)) (rE ?_)))))
 try dsimp only [w0,w1,w2,w3]
 rcases ifc h with ⟨hc1,h⟩ | ⟨hc1,h⟩
 ·refine q_cond_t rfl (.tmp rfl) hc1 (qQ rfl (qR rfl rfl (qS 4 rfl (ok_assign · (.func _)) (rE ?_))))
  try dsimp only [w0,w1,w2,w3]
  cases h
  exact q_ret rfl at_.at_ rfl (res1 rfl rfl) ⟨rfl,rfl⟩
 ·obtain ⟨p2,hp2,h⟩ := bindo h
  obtain ⟨p3,hp3,h⟩ := bindo h
  refine q_cond_f rfl (.tmp rfl) (bfalse hc1) (q_skipc rfl (qQ rfl (qR rfl rfl (qS 7 rfl (oM · rfl) (qS 8 rfl (oN · rfl hp2) (qS 9 rfl (oF · fi81_3 (by decide) rfl rfl) (qS 10 rfl (oL · sc79 rfl rfl (ldM_out hp3)) ?_)))))))
  try dsimp only [w0,w1,w2,w3]
  obtain ⟨p4,hp4,h⟩ := bindo h
  obtain ⟨p5,hp5,h⟩ := bindo h
  obtain ⟨p6,hp6,h⟩ := bindo h
  refine qS 11 rfl (oM · rfl) (qS 12 rfl (ok_lookup · tu79 zi96 (fun β => .ptrNil) (keyStr tu9) (.tmp rfl) (.tmp rfl) hp4 (dP_out hp5)) (q_call (dst := some 13) rfl (.func _) (.cons (.tmp rfl) Evs.nil) (HInv.static set_Set_int_All.at_ set_Set_int_All.body (set_Set_int_All.snd  hp6)) ?_))
  rintro _ _ ⟨rfl,rfl⟩
  refine qS 4 rfl (oA · rfl) (rE ?_)
  try dsimp only [w0,w1,w2,w3]
  cases h
  exact q_ret rfl at_.at_ rfl (res1 rfl rfl) ⟨rfl,rfl⟩
end
end pair_Rel_int_string_By
namespace wish_Lists_By
theorem at_ : FnAt Tryz.prog 29 Tryz.f29 := ⟨Tryz.func29,by kernel_rfl⟩
noncomputable def d0 := (Tryz.f29.body).getD .skip
noncomputable def r1 := kR (kA d0)
noncomputable def r4 := kR (kA (kA (kB d0)))
noncomputable def r7 := kR (kA (kA (kB (kA (kB d0)))))
noncomputable def r11 := kR (kA (kB (kB d0)))
noncomputable def c0 : Code := .seq (.region 0 r1 false) (.seq (.seq (.region 1 r4 false) (.cond (.tmp 6) (.seq (.region 2 r7 false) .ret) .skip)) (.seq (.region 3 r11 true) .ret))
theorem body : Tryz.f29.body = some c0 := by kernel_rfl
section
variable {base : Nat} {W0 : World} {β0 : Bt}
def f (k : Nat) (x0 : (Option HA)) (x1 : (List UInt8)) (S : HS) : Option ((HV) × HS) :=
 (if (Option.isNone x0) = true then
 some ((HV.fn (.func 45) [] []),S) else
 (Option.bind (x0) fun p2 =>
 (Option.bind (HS.ldP S (HA.fld p2 0)) fun p3 =>
 (Option.bind (fold_Text.f k x1 S) fun p4 =>
 (Option.bind (HS.ldP p4.2 (HA.fld p2 0)) fun p5 =>
 (if p5 = p3 then
 (Option.bind (pair_Rel_int_string_By.f p3 p4.1 p4.2) fun p7 =>
 some (p7.1,p7.2)) else none))))))
theorem snd {k : Nat} {x0 : (Option HA)} {x1 : (List UInt8)} {S : HS}  {p : (HV) × HS} (h : f k x0 x1 S = some p) : HCall Tryz.prog base W0 β0 29 [(.ptr x0),(.str x1)] S (fun v S1 => v = p.1 ∧ S1 = p.2) := by
 unfold f at h
 refine HCall.of_run at_.at_ body ?_
 show HRun Tryz.prog base W0 β0 29 none [.code c0] ⟨[(.ptr x0),(.str x1),τ,τ,τ,τ,τ,τ,τ,τ,τ,τ,τ,τ],[]⟩ S _
 refine qQ rfl (qR rfl rfl (qS 4 rfl (ok_assign · (.const fun _ => .nilFn)) (rE ?_)))
 try dsimp only [w0,w1,w2,w3]
 refine qQ rfl (qQ rfl (qR rfl rfl (qS 5 rfl (oM · rfl) (qS 6 rfl (ok_nil_ptr · tu25 (.tmp rfl) (.inl ⟨rfl,rfl⟩)) (rE ?_)))))
 try dsimp only [w0,w1,w2,w3]
 rcases ifc h with ⟨hc1,h⟩ | ⟨hc1,h⟩
 ·refine q_cond_t rfl (.tmp rfl) hc1 (qQ rfl (qR rfl rfl (qS 4 rfl (ok_assign · (.func _)) (rE ?_))))
  try dsimp only [w0,w1,w2,w3]
  cases h
  exact q_ret rfl at_.at_ rfl (res1 rfl rfl) ⟨rfl,rfl⟩
 ·refine q_cond_f rfl (.tmp rfl) (bfalse hc1) (q_skipc rfl (qQ rfl ?_))
  refine x_start (cls := [0,0,0,3,0,2,2,0]) (rk := [0,1,2,3,4,5,6,7]) rfl (by kernel_rfl) ?_
  refine xf 7 [0] rfl (oM · rfl) ?_
  obtain ⟨p2,hp2,h⟩ := bindo h
  refine xf 8 [7] rfl (oN · rfl hp2) ?_
  refine xf 9 [8] rfl (oF · fi60_0 (by decide) rfl rfl) ?_
  obtain ⟨p3,hp3,h⟩ := bindo h
  refine x_late (r_op (dst := some 10) (ts := [9]) rfl (by intro _ _ h; cases h) (by kernel_rfl) (fun _ ho => ok_load_s ho sc55 (.tmp rfl) rfl (ldP_out hp3))) rfl trivial ?_
  try dsimp only [w0,w1,w2,w3]
  refine xf 11 [1] rfl (oM · rfl) ?_
  obtain ⟨p4,hp4,h⟩ := bindo h
  obtain ⟨p5,hp5,h⟩ := bindo h
  obtain ⟨hg6,h⟩ := gd h
  refine x_goE (e_call (dst := some 12) (ts := [11]) rfl (by kernel_rfl) (.func _) (.cons (.tmp rfl) Evs.nil) (HInv.static fold_Text.at_ fold_Text.body (fold_Text.snd  hp4))) rfl ⟨.inr (l_op (dst := some 10) (ts := [9]) rfl (by intro _ _ h; cases h) (by kernel_rfl) (fun _ ho => ok_load_s ho sc55 (.tmp rfl) rfl (ldP_out (hp5.trans (congrArg some hg6))))),trivial⟩ ?_
  obtain ⟨p7,hp7,h⟩ := bindo h
  refine x_goE (e_call (dst := some 13) (ts := [10,12]) rfl (by kernel_rfl) (.func _) (.cons (.tmp rfl) (.cons (.tmp rfl) Evs.nil)) (HInv.static pair_Rel_int_string_By.at_ pair_Rel_int_string_By.body (pair_Rel_int_string_By.snd  hp7))) rfl ⟨.inl (by kernel_rfl),trivial⟩ ?_
  refine xf 4 [13] rfl (oA · rfl) ?_
  refine x_rest rfl ?_
  refine rE ?_
  try dsimp only [w0,w1,w2,w3]
  cases h
  exact q_ret rfl at_.at_ rfl (res1 rfl rfl) ⟨rfl,rfl⟩
end
end wish_Lists_By
namespace rollcalllaw21_clients
theorem at_ : FnAt Tryz.prog 14 Tryz.f14 := ⟨Tryz.func14,by kernel_rfl⟩
noncomputable def d0 := (Tryz.f14.body).getD .skip
noncomputable def r1 := kR (kA d0)
noncomputable def r3 := kR (kA (kB d0))
noncomputable def r5 := kR (kA (kB (kB d0)))
noncomputable def d6 := kB (kB (kB d0))
noncomputable def r8 := kR (kA (kA d6))
noncomputable def r11 := kR (kA (kA (kB (kA d6))))
noncomputable def r16 := kR (kA (kA (kB d6)))
noncomputable def d17 := kB (kA (kB d6))
noncomputable def r19 := kR (kA (kA d17))
noncomputable def r23 := kR (kA (kA (kA (kB (kA d17)))))
noncomputable def r26 := kR (kA (kA (kB (kA (kA (kB (kA d17)))))))
noncomputable def r29 := kR (kB (kA (kB (kA d17))))
noncomputable def r31 := kR (kA (kB (kB d6)))
noncomputable def c20 : Code := .block 1 (.seq (.seq (.region 7 r23 false) (.cond (.tmp 18) (.seq (.region 8 r26 false) .ret) .skip)) (.region 9 r29 false))
noncomputable def c19 : Code := .region 6 r19 false
noncomputable def c0 : Code := .seq (.region 0 r1 false) (.seq (.region 1 r3 false) (.seq (.region 2 r5 false) (.seq (.seq (.region 3 r8 false) (.cond (.tmp 13) (.seq (.region 4 r11 false) .ret) .skip)) (.seq (.seq (.region 5 r16 false) (.block 0 (.rangeFunc (.tmp 14) #[15] c19 c20))) (.seq (.region 10 r31 false) .ret)))))
theorem body : Tryz.f14.body = some c0 := by kernel_rfl
section
variable {base : Nat} {W0 : World} {β0 : Bt}
def J0 (D : Dp) (H : Hd) (k : Nat) (l : Nat) (y4 : (Option HA)) (y5 : (Option HA)) (y6 : (Option HA)) (y15 : Int) (S : HS) : Option (HV × HS) :=
 (Option.bind (HS.begin_ S l) fun p12 =>
 (Option.bind (y6) fun p13 =>
 (Option.bind (HS.ldSl p12 p13) fun p14 =>
 (if (Sl.len p14 : Int) > 99 then
 (Option.bind (y4) fun p16 =>
 (Option.bind (HS.sets p12 p16 [(Sl.hv Sl.nil)]) fun p17 =>
 (Option.bind (y5) fun p18 =>
 (Option.bind (HS.sets p17 p18 [(.bool false)]) fun p19 =>
 (HS.endr p19 l (some .ret)))))) else
 (Option.bind (y6) fun p20 =>
 (Option.bind (HS.ldSl p12 p20) fun p21 =>
 (letv (HS.lit p12 [[(.int .i64 y15)]] 1) fun p22 =>
 (Option.bind (HS.rows (p22.2) (p22.1) 1) fun p23 =>
 (Option.bind (HS.app (p22.2) p21 p23 1) fun p24 =>
 (Option.bind (y6) fun p25 =>
 (Option.bind (HS.sets (p24.2) p25 [(Sl.hv (p24.1))]) fun p26 =>
 (HS.endr p26 l none))))))))))))
theorem J0_snd {D : Dp} {H : Hd} {k : Nat} {l : Nat} (hD : DSound Tryz.prog base W0 D) (hH : HSound Tryz.prog base W0 β0 H)  {y4 : (Option HA)} {y5 : (Option HA)} {y6 : (Option HA)} {y15 : Int} {S : HS} {p : HV × HS} {Ga Gb Gc Gd Gh Gi Gj Gk Gl Gm Gn Go Gq Gr Gs Gt Gu Gv Gw Gx : HV} (h : J0 D H k l y4 y5 y6 y15 S = some p) : HRun Tryz.prog base W0 β0 14 (some l) [.code c19,.beginRound,.code c20] ⟨[Ga,Gb,Gc,Gd,(.ptr y4),(.ptr y5),(.ptr y6),Gh,Gi,Gj,Gk,Gl,Gm,Gn,Go,(.int .i64 y15),Gq,Gr,Gs,Gt,Gu,Gv,Gw,Gx],[]⟩ S (fun v S1 => v = p.1 ∧ S1 = p.2) := by
 unfold J0 at h
 refine qR rfl rfl (qS 8 rfl (oA · rfl) (rE ?_))
 try dsimp only [w0,w1,w2,w3]
 obtain ⟨p12,hp12,h⟩ := bindo h
 refine q_begin hp12 ?_
 obtain ⟨p13,hp13,h⟩ := bindo h
 obtain ⟨p14,hp14,h⟩ := bindo h
 refine q_block rfl (qQ rfl (qQ rfl (qR rfl rfl (qS 16 rfl (oL · sc41 rfl hp13 (ldSl_out hp14)) (qS 17 rfl (ok_len_sl (q := Sl.a p14) (n := Sl.len p14) (z := Sl.cap p14) · rfl tu41 (.tmp rfl)) (qS 18 rfl (oC · rfl rfl) (rE ?_)))))))
 try dsimp only [w0,w1,w2,w3]
 rcases ifc h with ⟨hc15,h⟩ | ⟨hc15,h⟩
 ·obtain ⟨p16,hp16,h⟩ := bindo h
  obtain ⟨p17,hp17,h⟩ := bindo h
  obtain ⟨p18,hp18,h⟩ := bindo h
  obtain ⟨p19,hp19,h⟩ := bindo h
  refine q_cond_t rfl (.tmp rfl) (decide_eq_true hc15) (qQ rfl (qR rfl rfl (qN rfl (ok_store_s (v := (Sl.hv Sl.nil)) · sz41 (.tmp rfl) hp16 (.const fun _ => .slNil none) rfl hp17) (qN rfl (ok_store_s (v := (.bool false)) · sz4 (.tmp rfl) hp18 (.bool _) rfl hp19) (rE ?_)))))
  try dsimp only [w0,w1,w2,w3]
  exact q_round_ret rfl h ⟨rfl,rfl⟩
 ·obtain ⟨p20,hp20,h⟩ := bindo h
  obtain ⟨p21,hp21,h⟩ := bindo h
  obtain ⟨p22,hp22,h⟩ := leto h
  obtain ⟨p23,hp23,h⟩ := bindo h
  obtain ⟨p24,hp24,h⟩ := bindo h
  refine q_cond_f rfl (.tmp rfl) (decide_eq_false hc15) (q_skipc rfl (qR rfl rfl (qS 19 rfl (oL · sc41 rfl hp20 (ldSl_out hp21)) (qS 20 rfl (oM · rfl) (qS 21 rfl (ok_buildSlice_s (xs := [(.tmp 20)]) el41 · rfl rfl (by decide) (.cons (.tmp rfl) Evs.nil) rfl rfl hp22) (qS 22 rfl (ok_append (s := p21) (s1 := (p22.1)) el41 · rfl rfl ⟨_,tu41⟩ (.tmp rfl) (.tmp rfl) hp23 hp24) ?_))))))
  try dsimp only [w0,w1,w2,w3]
  obtain ⟨p25,hp25,h⟩ := bindo h
  obtain ⟨p26,hp26,h⟩ := bindo h
  refine qN rfl (ok_store_s (v := (Sl.hv (p24.1))) · sz41 (.tmp rfl) hp25 (.tmp rfl) rfl hp26) (rE ?_)
  try dsimp only [w0,w1,w2,w3]
  refine hr_inBlock ?_
  exact q_round_end h ⟨rfl,rfl⟩
def f (D : Dp) (H : Hd) (k : Nat) (x0 : (Option HA)) (x1 : (List UInt8)) (S : HS) : Option ((Sl × Bool) × HS) :=
 (letv (HS.new S (.cells 1 [[(Sl.hv Sl.nil)]] true)) fun p1 =>
 (letv (HS.new p1 (.cells 1 [[(.bool false)]] true)) fun p2 =>
 (letv (HS.new p2 (.cells 1 [[(Sl.hv Sl.nil)]] true)) fun p3 =>
 (Option.bind (wish_Lists_By.f k x0 x1 p3) fun p4 =>
 (Option.bind (HV.isNilFn p4.1) fun p5 =>
 (if (p5) = true then
 (Option.bind (HS.sets p4.2 (HA.cell0 S.next) [(Sl.hv Sl.nil)]) fun p7 =>
 (Option.bind (HS.sets p7 (HA.cell0 p1.next) [(.bool false)]) fun p8 =>
 (Option.bind (HS.leave p8 []) fun p9 =>
 (Option.bind (HS.ldSl p9 (HA.cell0 S.next)) fun p10 =>
 (Option.bind (HS.ldB p9 (HA.cell0 p1.next)) fun p11 =>
 some ((p10,p11),p9)))))) else
 (Option.bind (D (Hd.set H (HS.next p4.2 + 1) fun vs T =>
 (Option.bind (HS.lp T (HS.next p4.2 + 1)) fun u29 =>
 (Option.bind (args1 vs) fun ar27 =>
 (Option.bind (dI .i64 ar27) fun p28 =>
 (J0 D H k (HS.next p4.2 + 1) (some (HA.cell0 S.next)) (some (HA.cell0 p1.next)) (some (HA.cell0 p2.next)) p28 T))))) p4.1 [.fn (.yield (HS.next p4.2 + 1)) [] []] (HS.new (HS.new p4.2 .defer) (.loop .ready none))) fun p30 =>
 (Option.bind (HS.finish p30.2 (HS.next p4.2 + 1)) fun p31 =>
 (Option.bind (pcode p31.1) fun n32 =>
 (if n32 = 0 then
 (Option.bind (HS.ldSl p31.2 (HA.cell0 p2.next)) fun p34 =>
 (Option.bind (HS.sets p31.2 (HA.cell0 S.next) [(Sl.hv p34)]) fun p35 =>
 (Option.bind (HS.sets p35 (HA.cell0 p1.next) [(.bool true)]) fun p36 =>
 (Option.bind (HS.leave p36 (HS.next p4.2 :: [])) fun p37 =>
 (Option.bind (HS.ldSl p37 (HA.cell0 S.next)) fun p38 =>
 (Option.bind (HS.ldB p37 (HA.cell0 p1.next)) fun p39 =>
 some ((p38,p39),p37))))))) else
 (if n32 = 1 then
 (Option.bind (HS.leave p31.2 (HS.next p4.2 :: [])) fun p41 =>
 (Option.bind (HS.ldSl p41 (HA.cell0 S.next)) fun p42 =>
 (Option.bind (HS.ldB p41 (HA.cell0 p1.next)) fun p43 =>
 some ((p42,p43),p41)))) else
 none)))))))))))
theorem snd {D : Dp} {H : Hd} {k : Nat} {x0 : (Option HA)} {x1 : (List UInt8)} {S : HS} (hD : DSound Tryz.prog base W0 D) (hH : HSound Tryz.prog base W0 β0 H)  {p : (Sl × Bool) × HS} (h : f D H k x0 x1 S = some p) : HCall Tryz.prog base W0 β0 14 [(.ptr x0),(.str x1)] S (fun v S1 => v = (.tup [(Sl.hv p.1.1),(.bool p.1.2)]) ∧ S1 = p.2) := by
 unfold f at h
 refine HCall.of_run at_.at_ body ?_
 show HRun Tryz.prog base W0 β0 14 none [.code c0] ⟨[(.ptr x0),(.str x1),τ,τ,τ,τ,τ,τ,τ,τ,τ,τ,τ,τ,τ,τ,τ,τ,τ,τ,τ,τ,τ,τ],[]⟩ S _
 obtain ⟨p1,hp1,h⟩ := leto h
 obtain ⟨p2,hp2,h⟩ := leto h
 refine qQ rfl (qR rfl rfl (qS 4 rfl (ok_alloc_e · zi41 zr41 (by decide) rfl hp1) (qS 5 rfl (ok_alloc_e · zi4 zr4 (by decide) rfl hp2) (rE ?_))))
 try dsimp only [w0,w1,w2,w3]
 obtain ⟨p3,hp3,h⟩ := leto h
 refine qQ rfl (qR rfl rfl (qS 6 rfl (ok_alloc_e · zi41 zr41 (by decide) rfl hp3) (rE ?_)))
 try dsimp only [w0,w1,w2,w3]
 obtain ⟨p4,hp4,h⟩ := bindo h
 refine qQ rfl (qR rfl rfl (qS 9 rfl (oM · rfl) (qS 10 rfl (oM · rfl) (q_call (dst := some 11) rfl (.func _) (.cons (.tmp rfl) (.cons (.tmp rfl) Evs.nil)) (HInv.static wish_Lists_By.at_ wish_Lists_By.body (wish_Lists_By.snd  hp4)) ?_))))
 rintro _ _ ⟨rfl,rfl⟩
 refine qS 7 rfl (oA · rfl) (rE ?_)
 try dsimp only [w0,w1,w2,w3]
 obtain ⟨p5,hp5,h⟩ := bindo h
 refine qQ rfl (qQ rfl (qR rfl rfl (qS 12 rfl (oM · rfl) (qS 13 rfl (ok_nil_fn · tu70 (.tmp rfl) hp5 (.inl ⟨rfl,rfl⟩)) (rE ?_)))))
 try dsimp only [w0,w1,w2,w3]
 rcases ifc h with ⟨hc6,h⟩ | ⟨hc6,h⟩
 ·obtain ⟨p7,hp7,h⟩ := bindo h
  obtain ⟨p8,hp8,h⟩ := bindo h
  refine q_cond_t rfl (.tmp rfl) hc6 (qQ rfl (qR rfl rfl (qN rfl (ok_store_s (v := (Sl.hv Sl.nil)) · sz41 (.tmp rfl) rfl (.const fun _ => .slNil none) rfl hp7) (qN rfl (ok_store_s (v := (.bool false)) · sz4 (.tmp rfl) rfl (.bool _) rfl hp8) (rE ?_)))))
  try dsimp only [w0,w1,w2,w3]
  obtain ⟨p9,hp9,h⟩ := bindo h
  obtain ⟨p10,hp10,h⟩ := bindo h
  obtain ⟨p11,hp11,h⟩ := bindo h
  cases h
  exact q_ret rfl at_.at_ hp9 (resL (rs := [.cell 4 41,.cell 5 4]) rfl (.cons (.cell rfl rfl sc41 (ldSl_out hp10)) (.cons (.cell rfl rfl sc4 (ldB_out hp11)) .nil)) (by simp)) ⟨rfl,rfl⟩
 ·refine q_cond_f rfl (.tmp rfl) (bfalse hc6) (q_skipc rfl (qQ rfl (qQ rfl (qR rfl rfl (qS 14 rfl (oM · rfl) (rE ?_))))))
  try dsimp only [w0,w1,w2,w3]
  obtain ⟨p30,hp30,h⟩ := bindo h
  obtain ⟨p31,hp31,h⟩ := bindo h
  obtain ⟨n32,hn32,h⟩ := bindo h
  refine q_block rfl ?_
  refine q_range (D := D) (H := H) rfl (.tmp rfl) hD hH hp30 hp31 ?_ ?_
  ·intro β1 hle hLA vs T u T' hr
   obtain ⟨u29,hu29,hr⟩ := bindo hr
   obtain ⟨ar27,har27,hr⟩ := bindo hr
   obtain ⟨p28,hp28,hr⟩ := bindo hr
   rw [args1_out har27]
   refine q_yield2 hLA hu29 rfl rfl ?_
   rw [dI_out hp28]
   simp only [HAct.params,List.set_cons_zero,List.set_cons_succ]
   exact J0_snd hD (hH.up hle) hr
  ·rcases ifc h with ⟨hc33,h⟩ | ⟨hc33,h⟩
   ·rw [pcode0 hn32 hc33]
    simp only [jumped_none,jumped_some]
    obtain ⟨p34,hp34,h⟩ := bindo h
    obtain ⟨p35,hp35,h⟩ := bindo h
    obtain ⟨p36,hp36,h⟩ := bindo h
    refine hr_inBlock (qQ rfl (qR rfl rfl (qS 23 rfl (oL · sc41 rfl rfl (ldSl_out hp34)) (qN rfl (ok_store_s (v := (Sl.hv p34)) · sz41 (.tmp rfl) rfl (.tmp rfl) rfl hp35) (qN rfl (ok_store_s (v := (.bool true)) · sz4 (.tmp rfl) rfl (.bool _) rfl hp36) (rE ?_))))))
    try dsimp only [w0,w1,w2,w3]
    obtain ⟨p37,hp37,h⟩ := bindo h
    obtain ⟨p38,hp38,h⟩ := bindo h
    obtain ⟨p39,hp39,h⟩ := bindo h
    cases h
    exact q_ret rfl at_.at_ hp37 (resL (rs := [.cell 4 41,.cell 5 4]) rfl (.cons (.cell rfl rfl sc41 (ldSl_out hp38)) (.cons (.cell rfl rfl sc4 (ldB_out hp39)) .nil)) (by simp)) ⟨rfl,rfl⟩
   ·rcases ifc h with ⟨hc40,h⟩ | ⟨hc40,h⟩
    ·rw [pcode1 hn32 hc40]
     simp only [jumped_none,jumped_some]
     obtain ⟨p41,hp41,h⟩ := bindo h
     obtain ⟨p42,hp42,h⟩ := bindo h
     obtain ⟨p43,hp43,h⟩ := bindo h
     cases h
     exact q_ret rfl at_.at_ hp41 (resL (rs := [.cell 4 41,.cell 5 4]) rfl (.cons (.cell rfl rfl sc41 (ldSl_out hp42)) (.cons (.cell rfl rfl sc4 (ldB_out hp43)) .nil)) (by simp)) ⟨rfl,rfl⟩
    ·cases h
end
end rollcalllaw21_clients
namespace wish_Lists_Count
theorem at_ : FnAt Tryz.prog 15 Tryz.f15 := ⟨Tryz.func15,by kernel_rfl⟩
noncomputable def d0 := (Tryz.f15.body).getD .skip
noncomputable def r1 := kR (kA d0)
noncomputable def r4 := kR (kA (kA (kB d0)))
noncomputable def r7 := kR (kA (kA (kB (kA (kB d0)))))
noncomputable def r11 := kR (kA (kB (kB d0)))
noncomputable def c0 : Code := .seq (.region 0 r1 false) (.seq (.seq (.region 1 r4 false) (.cond (.tmp 6) (.seq (.region 2 r7 false) .ret) .skip)) (.seq (.region 3 r11 false) .ret))
theorem body : Tryz.f15.body = some c0 := by kernel_rfl
section
variable {base : Nat} {W0 : World} {β0 : Bt}
def f (x0 : (Option HA)) (x1 : Int) (S : HS) : Option ((Int) × HS) :=
 (if (Option.isNone x0) = true then
 some (0,S) else
 (Option.bind (x0) fun p2 =>
 (Option.bind (HS.ldP S (HA.fld p2 0)) fun p3 =>
 (Option.bind (pair_Rel_int_string_Count.f p3 x1 S) fun p4 =>
 some (p4.1,p4.2)))))
theorem snd {x0 : (Option HA)} {x1 : Int} {S : HS}  {p : (Int) × HS} (h : f x0 x1 S = some p) : HCall Tryz.prog base W0 β0 15 [(.ptr x0),(.int .i64 x1)] S (fun v S1 => v = (.int .i64 p.1) ∧ S1 = p.2) := by
 unfold f at h
 refine HCall.of_run at_.at_ body ?_
 show HRun Tryz.prog base W0 β0 15 none [.code c0] ⟨[(.ptr x0),(.int .i64 x1),τ,τ,τ,τ,τ,τ,τ,τ,τ,τ,τ],[]⟩ S _
 refine qQ rfl (qR rfl rfl (qS 4 rfl (ok_assign · (.int _ _)) (rE ?_)))
 try dsimp only [w0,w1,w2,w3]
 refine qQ rfl (qQ rfl (qR rfl rfl (qS 5 rfl (oM · rfl) (qS 6 rfl (ok_nil_ptr · tu25 (.tmp rfl) (.inl ⟨rfl,rfl⟩)) (rE ?_)))))
 try dsimp only [w0,w1,w2,w3]
 rcases ifc h with ⟨hc1,h⟩ | ⟨hc1,h⟩
 ·refine q_cond_t rfl (.tmp rfl) hc1 (qQ rfl (qR rfl rfl (qS 4 rfl (ok_assign · (.int _ _)) (rE ?_))))
  try dsimp only [w0,w1,w2,w3]
  cases h
  exact q_ret rfl at_.at_ rfl (res1 rfl rfl) ⟨rfl,rfl⟩
 ·obtain ⟨p2,hp2,h⟩ := bindo h
  obtain ⟨p3,hp3,h⟩ := bindo h
  refine q_cond_f rfl (.tmp rfl) (bfalse hc1) (q_skipc rfl (qQ rfl (qR rfl rfl (qS 7 rfl (oM · rfl) (qS 8 rfl (oN · rfl hp2) (qS 9 rfl (oF · fi60_0 (by decide) rfl rfl) (qS 10 rfl (oL · sc55 rfl rfl (ldP_out hp3)) ?_)))))))
  try dsimp only [w0,w1,w2,w3]
  obtain ⟨p4,hp4,h⟩ := bindo h
  refine qS 11 rfl (oM · rfl) (q_call (dst := some 12) rfl (.func _) (.cons (.tmp rfl) (.cons (.tmp rfl) Evs.nil)) (HInv.static pair_Rel_int_string_Count.at_ pair_Rel_int_string_Count.body (pair_Rel_int_string_Count.snd  hp4)) ?_)
  rintro _ _ ⟨rfl,rfl⟩
  refine qS 4 rfl (oA · rfl) (rE ?_)
  try dsimp only [w0,w1,w2,w3]
  cases h
  exact q_ret rfl at_.at_ rfl (res1 rfl rfl) ⟨rfl,rfl⟩
end
end wish_Lists_Count
namespace wish_Lists_Has
theorem at_ : FnAt Tryz.prog 16 Tryz.f16 := ⟨Tryz.func16,by kernel_rfl⟩
noncomputable def d0 := (Tryz.f16.body).getD .skip
noncomputable def r1 := kR (kA d0)
noncomputable def r3 := kR (kA (kB d0))
noncomputable def c0 : Code := .seq (.region 0 r1 false) (.seq (.region 1 r3 true) .ret)
theorem body : Tryz.f16.body = some c0 := by kernel_rfl
section
variable {base : Nat} {W0 : World} {β0 : Bt}
def f (k : Nat) (x0 : (Option HA)) (x1 : Int) (x2 : (List UInt8)) (S : HS) : Option ((Bool) × HS) :=
 (if (!Option.isNone x0) = true then
 (Option.bind (x0) fun p2 =>
 (Option.bind (HS.ldP S (HA.fld p2 0)) fun p3 =>
 (Option.bind (fold_Text.f k x2 S) fun p4 =>
 (Option.bind (HS.ldP p4.2 (HA.fld p2 0)) fun p5 =>
 (if p5 = p3 then
 (Option.bind (pair_Rel_int_string_Has.f k p3 x1 p4.1 p4.2) fun p7 =>
 some (p7.1,p7.2)) else none))))) else
 some (false,S))
theorem snd {k : Nat} {x0 : (Option HA)} {x1 : Int} {x2 : (List UInt8)} {S : HS}  {p : (Bool) × HS} (h : f k x0 x1 x2 S = some p) : HCall Tryz.prog base W0 β0 16 [(.ptr x0),(.int .i64 x1),(.str x2)] S (fun v S1 => v = (.bool p.1) ∧ S1 = p.2) := by
 unfold f at h
 refine HCall.of_run at_.at_ body ?_
 show HRun Tryz.prog base W0 β0 16 none [.code c0] ⟨[(.ptr x0),(.int .i64 x1),(.str x2),τ,τ,τ,τ,τ,τ,τ,τ,τ,τ,τ,τ,τ,τ,τ,τ],[]⟩ S _
 refine qQ rfl (qR rfl rfl (qS 6 rfl (ok_assign · (.bool _)) (rE ?_)))
 try dsimp only [w0,w1,w2,w3]
 refine qQ rfl ?_
 refine x_start (cls := [0,0,0,0,0,0,3,0,0,2,2,0,0]) (rk := [0,1,2,3,4,5,6,7,8,9,10,11,12]) rfl (by kernel_rfl) ?_
 refine xf 7 [0] rfl (oM · rfl) ?_
 refine xf 8 [7] rfl (ok_nil_ptr · tu25 (.tmp rfl) (.inr ⟨rfl,rfl⟩)) ?_
 refine xf 9 [8] rfl (oM · rfl) ?_
 rcases ifc h with ⟨hc1,h⟩ | ⟨hc1,h⟩
 ·refine xfg 10 9 [0,9] rfl hc1 (oM · rfl) ?_
  try dsimp only [w0,w1,w2,w3]
  obtain ⟨p2,hp2,h⟩ := bindo h
  refine xfg 11 9 [10,9] rfl hc1 (oN · rfl hp2) ?_
  refine xfg 12 9 [11,9] rfl hc1 (oF · fi60_0 (by decide) rfl rfl) ?_
  obtain ⟨p3,hp3,h⟩ := bindo h
  refine x_late (r_op_g (dst := some 13) (t := 9) (ts := [12,9]) rfl (by intro _ _ h; cases h) (by kernel_rfl) rfl rfl hc1 (fun _ ho => ok_load_s ho sc55 (.tmp rfl) rfl (ldP_out hp3))) rfl trivial ?_
  refine xfg 14 9 [1,9] rfl hc1 (oM · rfl) ?_
  try dsimp only [w0,w1,w2,w3]
  refine xfg 15 9 [2,9] rfl hc1 (oM · rfl) ?_
  obtain ⟨p4,hp4,h⟩ := bindo h
  obtain ⟨p5,hp5,h⟩ := bindo h
  obtain ⟨hg6,h⟩ := gd h
  refine x_goE (e_call_g (dst := some 16) (t := 9) (ts := [15,9]) rfl (by kernel_rfl) rfl rfl hc1 (.func _) (.cons (.tmp rfl) Evs.nil) (HInv.static fold_Text.at_ fold_Text.body (fold_Text.snd  hp4))) rfl ⟨.inr (l_op_g (dst := some 13) (t := 9) (ts := [12,9]) rfl (by intro _ _ h; cases h) (by kernel_rfl) rfl rfl hc1 (fun _ ho => ok_load_s ho sc55 (.tmp rfl) rfl (ldP_out (hp5.trans (congrArg some hg6))))),trivial⟩ ?_
  obtain ⟨p7,hp7,h⟩ := bindo h
  refine x_goE (e_call_g (dst := some 17) (t := 9) (ts := [13,14,16,9]) rfl (by kernel_rfl) rfl rfl hc1 (.func _) (.cons (.tmp rfl) (.cons (.tmp rfl) (.cons (.tmp rfl) Evs.nil))) (HInv.static pair_Rel_int_string_Has.at_ pair_Rel_int_string_Has.body (pair_Rel_int_string_Has.snd  hp7))) rfl ⟨.inl (by kernel_rfl),trivial⟩ ?_
  refine xf 18 [9,17] rfl (ok_pick_tt · (.tmp rfl) hc1 (.tmp rfl)) ?_
  try dsimp only [w0,w1,w2,w3]
  refine xf 6 [18] rfl (oA · rfl) ?_
  refine x_rest rfl ?_
  refine rE ?_
  try dsimp only [w0,w1,w2,w3]
  cases h
  exact q_ret rfl at_.at_ rfl (res1 rfl rfl) ⟨rfl,rfl⟩
 ·refine xfs 10 9 [0,9] rfl (bfalse hc1) ?_
  try dsimp only [w0,w1,w2,w3]
  refine xfs 11 9 [10,9] rfl (bfalse hc1) ?_
  refine xfs 12 9 [11,9] rfl (bfalse hc1) ?_
  refine x_late (r_skip (dst := some 13) (t := 9) (ts := [12,9]) rfl (by kernel_rfl) rfl rfl (bfalse hc1)) rfl trivial ?_
  refine xfs 14 9 [1,9] rfl (bfalse hc1) ?_
  try dsimp only [w0,w1,w2,w3]
  refine xfs 15 9 [2,9] rfl (bfalse hc1) ?_
  refine zes 16 9 [15,9] rfl (bfalse hc1) ⟨.inr (l_skip (dst := some 13) (t := 9) (ts := [12,9]) rfl (by kernel_rfl) rfl rfl (bfalse hc1)),trivial⟩ ?_
  refine zes 17 9 [13,14,16,9] rfl (bfalse hc1) ⟨.inl (by kernel_rfl),trivial⟩ ?_
  refine xf 18 [9,17] rfl (ok_pick_ff · (.tmp rfl) (bfalse hc1) (.bool _)) ?_
  try dsimp only [w0,w1,w2,w3]
  refine xf 6 [18] rfl (oA · rfl) ?_
  refine x_rest rfl ?_
  refine rE ?_
  try dsimp only [w0,w1,w2,w3]
  cases h
  exact q_ret rfl at_.at_ rfl (res1 rfl rfl) ⟨rfl,rfl⟩
end
end wish_Lists_Has
namespace rollcallref10_Has
theorem at_ : FnAt Tryz.prog 50 Tryz.f50 := ⟨Tryz.func50,by kernel_rfl⟩
noncomputable def d0 := (Tryz.f50.body).getD .skip
noncomputable def r1 := kR (kA d0)
noncomputable def r4 := kR (kA (kA (kB d0)))
noncomputable def d5 := kB (kA (kB d0))
noncomputable def r9 := kR (kA (kA (kA (kA d5))))
noncomputable def d15 := kA (kA (kB (kA (kA d5))))
noncomputable def r16 := kR (kA d15)
noncomputable def r19 := kR (kA (kA (kB d15)))
noncomputable def r22 := kR (kB (kB (kA (kA d5))))
noncomputable def r24 := kR (kA (kB (kB d0)))
noncomputable def c23 : Code := .seq (.region 6 r24 false) .ret
noncomputable def c7 : Code := .seq (.seq (.region 2 r9 false) (.cond (.tmp 9) .skip (.exit 0))) (.seq (.block 1 (.seq (.region 4 r16 false) (.cond (.tmp 17) (.seq (.region 5 r19 false) .ret) .skip))) (.region 3 r22 false))
noncomputable def c0 : Code := .seq (.region 0 r1 false) (.seq (.seq (.region 1 r4 false) (.block 0 (.loop c7))) c23)
theorem body : Tryz.f50.body = some c0 := by kernel_rfl
section
variable {base : Nat} {W0 : World} {β0 : Bt}
def L0 (k : Nat) : Nat → Sl → Int → Int → HS → Option ((Bool) × HS)
 | 0,_,_,_,_ => none
 | n + 1,y0,y1,y5,S =>
  (if y5 < (Sl.len y0 : Int) then
  (Option.bind (HS.idx S y0 y5 1) fun p2 =>
  (Option.bind (HS.ldI S .i64 p2) fun p3 =>
  (if p3 = y1 then
  some (true,S) else
  (L0 k n) y0 y1 (w64 (y5 + 1)) S))) else
  some (false,S))
theorem L0_snd {k : Nat}  : ∀ {n : Nat} ⦃y0 : Sl⦄ ⦃y1 : Int⦄ ⦃y5 : Int⦄ ⦃S : HS⦄ ⦃p : (Bool) × HS⦄ ⦃Gc Gd Ge Gg Gh Gi Gj Gk Gl Gm Gn Go Gp Gq Gr : HV⦄,L0 k n y0 y1 y5 S = some p → HRun Tryz.prog base W0 β0 50 none [.inLoop c7,.inBlock 0,.code c23] ⟨[(Sl.hv y0),(.int .i64 y1),Gc,Gd,Ge,(.int .i64 y5),Gg,Gh,Gi,Gj,Gk,Gl,Gm,Gn,Go,Gp,Gq,Gr],[]⟩ S (fun v S1 => v = (.bool p.1) ∧ S1 = p.2) := by
 intro n
 induction n with
 | zero => intro _ _ _ _ _ _ _ _ _ _ _ _ _ _ _ _ _ _ _ _ h; cases h
 | succ n ih =>
  intro y0 y1 y5 S p Gc Gd Ge Gg Gh Gi Gj Gk Gl Gm Gn Go Gp Gq Gr h
  simp only [L0] at h
  refine hr_inLoop (qQ rfl (qQ rfl (qR rfl rfl (qS 6 rfl (oM · rfl) (qS 7 rfl (oM · rfl) (qS 8 rfl (ok_len_sl (q := Sl.a y0) (n := Sl.len y0) (z := Sl.cap y0) · rfl tu41 (.tmp rfl)) (qS 9 rfl (oB · rfl rfl rfl) (rE ?_))))))))
  try dsimp only [w0,w1,w2,w3]
  rcases ifc h with ⟨hc1,h⟩ | ⟨hc1,h⟩
  ·obtain ⟨p2,hp2,h⟩ := bindo h
   obtain ⟨p3,hp3,h⟩ := bindo h
   refine q_cond_t rfl (.tmp rfl) (decide_eq_true hc1) (q_skipc rfl (qQ rfl (q_block rfl (qQ rfl (qR rfl rfl (qS 12 rfl (oM · rfl) (qS 13 rfl (oM · rfl) (qS 14 rfl (oX (s := y0) · tu41 sz3 rfl rfl hp2) (qS 15 rfl (oL · sc3 rfl rfl (ldI_out hp3)) ?_)))))))))
   try dsimp only [w0,w1,w2,w3]
   refine qS 16 rfl (oM · rfl) (qS 17 rfl (oB · rfl rfl rfl) (rE ?_))
   try dsimp only [w0,w1,w2,w3]
   rcases ifc h with ⟨hc4,h⟩ | ⟨hc4,h⟩
   ·refine q_cond_t rfl (.tmp rfl) (decide_eq_true hc4) (qQ rfl (qR rfl rfl (qS 4 rfl (ok_assign · (.bool _)) (rE ?_))))
    try dsimp only [w0,w1,w2,w3]
    cases h
    exact q_ret rfl at_.at_ rfl (res1 rfl rfl) ⟨rfl,rfl⟩
   ·refine q_cond_f rfl (.tmp rfl) (decide_eq_false hc4) (q_skipc rfl (hr_inBlock (qR rfl rfl (qS 10 rfl (oM · rfl) (qS 11 rfl (oC · rfl rfl) (qS 5 rfl (oA · rfl) (rE ?_)))))))
    try dsimp only [w0,w1,w2,w3]
    try dsimp only [w0,w1,w2,w3]
    exact ih h
  ·refine q_cond_f rfl (.tmp rfl) (decide_eq_false hc1) (q_exit rfl rfl (qQ rfl (qR rfl rfl (qS 4 rfl (ok_assign · (.bool _)) (rE ?_)))))
   try dsimp only [w0,w1,w2,w3]
   cases h
   exact q_ret rfl at_.at_ rfl (res1 rfl rfl) ⟨rfl,rfl⟩
def f (k : Nat) (x0 : Sl) (x1 : Int) (S : HS) : Option ((Bool) × HS) :=
 L0 k k x0 x1 0 S
theorem snd {k : Nat} {x0 : Sl} {x1 : Int} {S : HS}  {p : (Bool) × HS} (h : f k x0 x1 S = some p) : HCall Tryz.prog base W0 β0 50 [(Sl.hv x0),(.int .i64 x1)] S (fun v S1 => v = (.bool p.1) ∧ S1 = p.2) := by
 unfold f at h
 refine HCall.of_run at_.at_ body ?_
 show HRun Tryz.prog base W0 β0 50 none [.code c0] ⟨[(Sl.hv x0),(.int .i64 x1),τ,τ,τ,τ,τ,τ,τ,τ,τ,τ,τ,τ,τ,τ,τ,τ],[]⟩ S _
 refine qQ rfl (qR rfl rfl (qS 4 rfl (ok_assign · (.bool _)) (rE ?_)))
 try dsimp only [w0,w1,w2,w3]
 refine qQ rfl (qQ rfl (qR rfl rfl (qS 5 rfl (ok_assign · (.int _ _)) (rE ?_))))
 try dsimp only [w0,w1,w2,w3]
 refine q_block rfl (q_loop rfl ?_)
 try dsimp only [w0,w1,w2,w3]
 exact L0_snd  h
end
end rollcallref10_Has
namespace rollcallref10_Add
theorem at_ : FnAt Tryz.prog 34 Tryz.f34 := ⟨Tryz.func34,by kernel_rfl⟩
noncomputable def d0 := (Tryz.f34.body).getD .skip
noncomputable def r1 := kR (kA d0)
noncomputable def r4 := kR (kA (kA (kB d0)))
noncomputable def r7 := kR (kA (kA (kB (kA (kB d0)))))
noncomputable def r11 := kR (kA (kB (kB d0)))
noncomputable def d12 := kB (kB (kB d0))
noncomputable def r13 := kR (kA d12)
noncomputable def r16 := kR (kA (kA (kB d12)))
noncomputable def d17 := kB (kA (kB d12))
noncomputable def r21 := kR (kA (kA (kA (kA d17))))
noncomputable def d25 := kB (kA (kA d17))
noncomputable def r29 := kR (kA (kA (kA (kA d25))))
noncomputable def d31 := kA (kB (kA (kA (kA d25))))
noncomputable def r32 := kR (kA d31)
noncomputable def r33 := kR (kB d31)
noncomputable def r35 := kR (kB (kA (kA d25)))
noncomputable def r36 := kR (kB d25)
noncomputable def r39 := kR (kA (kA (kB (kB d12))))
noncomputable def r41 := kR (kA (kB (kA (kB (kB d12)))))
noncomputable def r44 := kR (kA (kB (kB (kB d12))))
noncomputable def c43 : Code := .seq (.region 14 r44 false) .ret
noncomputable def c37 : Code := .seq (.seq (.region 12 r39 false) (.cond (.tmp 40) (.region 13 r41 false) .skip)) c43
noncomputable def c36 : Code := .region 7 r36 false
noncomputable def c35 : Code := .region 11 r35 false
noncomputable def c30 : Code := .cond (.tmp 27) (.seq (.region 9 r32 false) (.region 10 r33 false)) .skip
noncomputable def c19 : Code := .seq (.seq (.region 6 r21 false) (.cond (.tmp 15) .skip (.exit 0))) (.seq (.block 1 (.seq (.seq (.region 8 r29 false) c30) c35)) c36)
noncomputable def c0 : Code := .seq (.region 0 r1 false) (.seq (.seq (.region 1 r4 false) (.cond (.tmp 10) (.seq (.region 2 r7 false) .ret) .skip)) (.seq (.region 3 r11 false) (.seq (.region 4 r13 false) (.seq (.seq (.region 5 r16 false) (.block 0 (.loop c19))) c37))))
theorem body : Tryz.f34.body = some c0 := by kernel_rfl
section
variable {base : Nat} {W0 : World} {β0 : Bt}
def J2 (k : Nat) (rec0 : Sl → Int → Sl → Bool → Int → HS → Option ((Sl) × HS)) (y0 : Sl) (y1 : Int) (y5 : Sl) (y6 : Bool) (y7 : Int) (S : HS) : Option ((Sl) × HS) :=
 (Option.bind (HS.idx S y0 y7 1) fun p11 =>
 (Option.bind (HS.ldI S .i64 p11) fun p12 =>
 (letv (HS.lit S [[(.int .i64 p12)]] 1) fun p13 =>
 (Option.bind (HS.rows (p13.2) (p13.1) 1) fun p14 =>
 (Option.bind (HS.app (p13.2) y5 p14 1) fun p15 =>
 rec0 y0 y1 (p15.1) y6 (w64 (y7 + 1)) (p15.2))))))
theorem J2_snd {k : Nat} {rec0 : Sl → Int → Sl → Bool → Int → HS → Option ((Sl) × HS)} (hrec0 : ∀ ⦃y0 : Sl⦄ ⦃y1 : Int⦄ ⦃y5 : Sl⦄ ⦃y6 : Bool⦄ ⦃y7 : Int⦄ ⦃S : HS⦄ ⦃p : (Sl) × HS⦄ ⦃Gc Gd Ge Gi Gj Gk Gl Gm Gn Go Gp Gq Gr Gs Gt Gu Gv Gw Gx Gy Gz Ka Kb Kc Kd Ke Kf Kg Kh Ki Kj Kk Kl Km Kn Ko Kp Kq Kr Ks Kt : HV⦄,rec0 y0 y1 y5 y6 y7 S = some p → HRun Tryz.prog base W0 β0 34 none [.inLoop c19,.inBlock 0,.code c37] ⟨[(Sl.hv y0),(.int .i64 y1),Gc,Gd,Ge,(Sl.hv y5),(.bool y6),(.int .i64 y7),Gi,Gj,Gk,Gl,Gm,Gn,Go,Gp,Gq,Gr,Gs,Gt,Gu,Gv,Gw,Gx,Gy,Gz,Ka,Kb,Kc,Kd,Ke,Kf,Kg,Kh,Ki,Kj,Kk,Kl,Km,Kn,Ko,Kp,Kq,Kr,Ks,Kt],[]⟩ S (fun v S1 => v = (Sl.hv p.1) ∧ S1 = p.2)) {y0 : Sl} {y1 : Int} {y5 : Sl} {y6 : Bool} {y7 : Int} {S : HS} {p : (Sl) × HS} {Gc Gd Ge Gi Gj Gk Gl Gm Gn Go Gp Gq Gr Gs Gt Gu Gv Gw Gx Gy Gz Ka Kb Kc Kd Ke Kf Kg Kh Ki Kj Kk Kl Km Kn Ko Kp Kq Kr Ks Kt : HV} (h : J2 k rec0 y0 y1 y5 y6 y7 S = some p) : HRun Tryz.prog base W0 β0 34 none [.code c35,.inBlock 1,.code c36,.inLoop c19,.inBlock 0,.code c37] ⟨[(Sl.hv y0),(.int .i64 y1),Gc,Gd,Ge,(Sl.hv y5),(.bool y6),(.int .i64 y7),Gi,Gj,Gk,Gl,Gm,Gn,Go,Gp,Gq,Gr,Gs,Gt,Gu,Gv,Gw,Gx,Gy,Gz,Ka,Kb,Kc,Kd,Ke,Kf,Kg,Kh,Ki,Kj,Kk,Kl,Km,Kn,Ko,Kp,Kq,Kr,Ks,Kt],[]⟩ S (fun v S1 => v = (Sl.hv p.1) ∧ S1 = p.2) := by
 unfold J2 at h
 obtain ⟨p11,hp11,h⟩ := bindo h
 refine qR rfl rfl (qS 32 rfl (oM · rfl) (qS 33 rfl (oM · rfl) (qS 34 rfl (oM · rfl) (qS 35 rfl (oX (s := y0) · tu41 sz3 rfl rfl hp11) ?_))))
 try dsimp only [w0,w1,w2,w3]
 obtain ⟨p12,hp12,h⟩ := bindo h
 obtain ⟨p13,hp13,h⟩ := leto h
 obtain ⟨p14,hp14,h⟩ := bindo h
 obtain ⟨p15,hp15,h⟩ := bindo h
 refine qS 36 rfl (oL · sc3 rfl rfl (ldI_out hp12)) (qS 37 rfl (ok_buildSlice_s (xs := [(.tmp 36)]) el41 · rfl rfl (by decide) (.cons (.tmp rfl) Evs.nil) rfl rfl hp13) (qS 38 rfl (ok_append (s := y5) (s1 := (p13.1)) el41 · rfl rfl ⟨_,tu41⟩ (.tmp rfl) (.tmp rfl) hp14 hp15) (qS 5 rfl (oA · rfl) (rE ?_))))
 try dsimp only [w0,w1,w2,w3]
 refine hr_inBlock (qR rfl rfl (qS 16 rfl (oM · rfl) (qS 17 rfl (oC · rfl rfl) (qS 7 rfl (oA · rfl) (rE ?_)))))
 try dsimp only [w0,w1,w2,w3]
 try dsimp only [w0,w1,w2,w3]
 exact hrec0 h
def J1 (k : Nat) (rec0 : Sl → Int → Sl → Bool → Int → HS → Option ((Sl) × HS)) (y0 : Sl) (y1 : Int) (y5 : Sl) (y6 : Bool) (y7 : Int) (y27 : Bool) (S : HS) : Option ((Sl) × HS) :=
 (if y27 = true then
 (letv (HS.lit S [[(.int .i64 y1)]] 1) fun p8 =>
 (Option.bind (HS.rows (p8.2) (p8.1) 1) fun p9 =>
 (Option.bind (HS.app (p8.2) y5 p9 1) fun p10 =>
 J2 k rec0 y0 y1 (p10.1) true y7 (p10.2)))) else
 J2 k rec0 y0 y1 y5 y6 y7 S)
theorem J1_snd {k : Nat} {rec0 : Sl → Int → Sl → Bool → Int → HS → Option ((Sl) × HS)} (hrec0 : ∀ ⦃y0 : Sl⦄ ⦃y1 : Int⦄ ⦃y5 : Sl⦄ ⦃y6 : Bool⦄ ⦃y7 : Int⦄ ⦃S : HS⦄ ⦃p : (Sl) × HS⦄ ⦃Gc Gd Ge Gi Gj Gk Gl Gm Gn Go Gp Gq Gr Gs Gt Gu Gv Gw Gx Gy Gz Ka Kb Kc Kd Ke Kf Kg Kh Ki Kj Kk Kl Km Kn Ko Kp Kq Kr Ks Kt : HV⦄,rec0 y0 y1 y5 y6 y7 S = some p → HRun Tryz.prog base W0 β0 34 none [.inLoop c19,.inBlock 0,.code c37] ⟨[(Sl.hv y0),(.int .i64 y1),Gc,Gd,Ge,(Sl.hv y5),(.bool y6),(.int .i64 y7),Gi,Gj,Gk,Gl,Gm,Gn,Go,Gp,Gq,Gr,Gs,Gt,Gu,Gv,Gw,Gx,Gy,Gz,Ka,Kb,Kc,Kd,Ke,Kf,Kg,Kh,Ki,Kj,Kk,Kl,Km,Kn,Ko,Kp,Kq,Kr,Ks,Kt],[]⟩ S (fun v S1 => v = (Sl.hv p.1) ∧ S1 = p.2)) {y0 : Sl} {y1 : Int} {y5 : Sl} {y6 : Bool} {y7 : Int} {y27 : Bool} {S : HS} {p : (Sl) × HS} {Gc Gd Ge Gi Gj Gk Gl Gm Gn Go Gp Gq Gr Gs Gt Gu Gv Gw Gx Gy Gz Ka Kc Kd Ke Kf Kg Kh Ki Kj Kk Kl Km Kn Ko Kp Kq Kr Ks Kt : HV} (h : J1 k rec0 y0 y1 y5 y6 y7 y27 S = some p) : HRun Tryz.prog base W0 β0 34 none [.code c30,.code c35,.inBlock 1,.code c36,.inLoop c19,.inBlock 0,.code c37] ⟨[(Sl.hv y0),(.int .i64 y1),Gc,Gd,Ge,(Sl.hv y5),(.bool y6),(.int .i64 y7),Gi,Gj,Gk,Gl,Gm,Gn,Go,Gp,Gq,Gr,Gs,Gt,Gu,Gv,Gw,Gx,Gy,Gz,Ka,(.bool y27),Kc,Kd,Ke,Kf,Kg,Kh,Ki,Kj,Kk,Kl,Km,Kn,Ko,Kp,Kq,Kr,Ks,Kt],[]⟩ S (fun v S1 => v = (Sl.hv p.1) ∧ S1 = p.2) := by
 unfold J1 at h
 rcases ifc h with ⟨hc7,h⟩ | ⟨hc7,h⟩
 ·obtain ⟨p8,hp8,h⟩ := leto h
  obtain ⟨p9,hp9,h⟩ := bindo h
  obtain ⟨p10,hp10,h⟩ := bindo h
  refine q_cond_t rfl (.tmp rfl) hc7 (qQ rfl (qR rfl rfl (qS 28 rfl (oM · rfl) (qS 29 rfl (oM · rfl) (qS 30 rfl (ok_buildSlice_s (xs := [(.tmp 29)]) el41 · rfl rfl (by decide) (.cons (.tmp rfl) Evs.nil) rfl rfl hp8) (qS 31 rfl (ok_append (s := y5) (s1 := (p8.1)) el41 · rfl rfl ⟨_,tu41⟩ (.tmp rfl) (.tmp rfl) hp9 hp10) ?_))))))
  try dsimp only [w0,w1,w2,w3]
  refine qS 5 rfl (oA · rfl) (rE ?_)
  try dsimp only [w0,w1,w2,w3]
  refine qR rfl rfl (qS 6 rfl (ok_assign · (.bool _)) (rE ?_))
  try dsimp only [w0,w1,w2,w3]
  try dsimp only [w0,w1,w2,w3]
  exact J2_snd hrec0 h
 ·refine q_cond_f rfl (.tmp rfl) (bfalse hc7) (q_skipc rfl ?_)
  try dsimp only [w0,w1,w2,w3]
  exact J2_snd hrec0 h
def J3 (k : Nat) (y5 : Sl) (S : HS) : Option ((Sl) × HS) :=
 some (y5,S)
theorem J3_snd {k : Nat}  {y5 : Sl} {S : HS} {p : (Sl) × HS} {Ga Gb Gc Gd Ge Gg Gh Gi Gj Gk Gl Gm Gn Go Gp Gq Gr Gs Gt Gu Gv Gw Gx Gy Gz Ka Kb Kc Kd Ke Kf Kg Kh Ki Kj Kk Kl Km Kn Ko Kp Kq Kr Ks Kt : HV} (h : J3 k y5 S = some p) : HRun Tryz.prog base W0 β0 34 none [.code c43] ⟨[Ga,Gb,Gc,Gd,Ge,(Sl.hv y5),Gg,Gh,Gi,Gj,Gk,Gl,Gm,Gn,Go,Gp,Gq,Gr,Gs,Gt,Gu,Gv,Gw,Gx,Gy,Gz,Ka,Kb,Kc,Kd,Ke,Kf,Kg,Kh,Ki,Kj,Kk,Kl,Km,Kn,Ko,Kp,Kq,Kr,Ks,Kt],[]⟩ S (fun v S1 => v = (Sl.hv p.1) ∧ S1 = p.2) := by
 unfold J3 at h
 refine qQ rfl (qR rfl rfl (qS 45 rfl (oM · rfl) (qS 4 rfl (oA · rfl) (rE ?_))))
 try dsimp only [w0,w1,w2,w3]
 cases h
 exact q_ret rfl at_.at_ rfl (res1 rfl rfl) ⟨rfl,rfl⟩
def L0 (k : Nat) : Nat → Sl → Int → Sl → Bool → Int → HS → Option ((Sl) × HS)
 | 0,_,_,_,_,_,_ => none
 | n + 1,y0,y1,y5,y6,y7,S =>
  (if y7 < (Sl.len y0 : Int) then
  (if (!y6) = true then
  (Option.bind (HS.idx S y0 y7 1) fun p5 =>
  (Option.bind (HS.ldI S .i64 p5) fun p6 =>
  J1 k (L0 k n) y0 y1 y5 y6 y7 (decide (p6 > y1)) S)) else
  J1 k (L0 k n) y0 y1 y5 y6 y7 false S) else
  (if (!y6) = true then
  (letv (HS.lit S [[(.int .i64 y1)]] 1) fun p17 =>
  (Option.bind (HS.rows (p17.2) (p17.1) 1) fun p18 =>
  (Option.bind (HS.app (p17.2) y5 p18 1) fun p19 =>
  J3 k (p19.1) (p19.2)))) else
  J3 k y5 S))
theorem L0_snd {k : Nat}  : ∀ {n : Nat} ⦃y0 : Sl⦄ ⦃y1 : Int⦄ ⦃y5 : Sl⦄ ⦃y6 : Bool⦄ ⦃y7 : Int⦄ ⦃S : HS⦄ ⦃p : (Sl) × HS⦄ ⦃Gc Gd Ge Gi Gj Gk Gl Gm Gn Go Gp Gq Gr Gs Gt Gu Gv Gw Gx Gy Gz Ka Kb Kc Kd Ke Kf Kg Kh Ki Kj Kk Kl Km Kn Ko Kp Kq Kr Ks Kt : HV⦄,L0 k n y0 y1 y5 y6 y7 S = some p → HRun Tryz.prog base W0 β0 34 none [.inLoop c19,.inBlock 0,.code c37] ⟨[(Sl.hv y0),(.int .i64 y1),Gc,Gd,Ge,(Sl.hv y5),(.bool y6),(.int .i64 y7),Gi,Gj,Gk,Gl,Gm,Gn,Go,Gp,Gq,Gr,Gs,Gt,Gu,Gv,Gw,Gx,Gy,Gz,Ka,Kb,Kc,Kd,Ke,Kf,Kg,Kh,Ki,Kj,Kk,Kl,Km,Kn,Ko,Kp,Kq,Kr,Ks,Kt],[]⟩ S (fun v S1 => v = (Sl.hv p.1) ∧ S1 = p.2) := by
 intro n
 induction n with
 | zero => intro _ _ _ _ _ _ _ _ _ _ _ _ _ _ _ _ _ _ _ _ _ _ _ _ _ _ _ _ _ _ _ _ _ _ _ _ _ _ _ _ _ _ _ _ _ _ _ _ h; cases h
 | succ n ih =>
  intro y0 y1 y5 y6 y7 S p Gc Gd Ge Gi Gj Gk Gl Gm Gn Go Gp Gq Gr Gs Gt Gu Gv Gw Gx Gy Gz Ka Kb Kc Kd Ke Kf Kg Kh Ki Kj Kk Kl Km Kn Ko Kp Kq Kr Ks Kt h
  simp only [L0] at h
  refine hr_inLoop (qQ rfl (qQ rfl (qR rfl rfl (qS 12 rfl (oM · rfl) (qS 13 rfl (oM · rfl) (qS 14 rfl (ok_len_sl (q := Sl.a y0) (n := Sl.len y0) (z := Sl.cap y0) · rfl tu41 (.tmp rfl)) (qS 15 rfl (oB · rfl rfl rfl) (rE ?_))))))))
  try dsimp only [w0,w1,w2,w3]
  rcases ifc h with ⟨hc3,h⟩ | ⟨hc3,h⟩
  ·refine q_cond_t rfl (.tmp rfl) (decide_eq_true hc3) (q_skipc rfl (qQ rfl (q_block rfl (qQ rfl (qQ rfl (qR rfl rfl (qS 18 rfl (oM · rfl) (qS 19 rfl (ok_not · (.tmp rfl)) (qS 20 rfl (oM · rfl) ?_)))))))))
   rcases ifc h with ⟨hc4,h⟩ | ⟨hc4,h⟩
   ·refine qG 20 21 rfl hc4 (oM · rfl) ?_
    try dsimp only [w0,w1,w2,w3]
    obtain ⟨p5,hp5,h⟩ := bindo h
    obtain ⟨p6,hp6,h⟩ := bindo h
    refine qG 20 22 rfl hc4 (oM · rfl) (qG 20 23 rfl hc4 (oX (s := y0) · tu41 sz3 rfl rfl hp5) (qG 20 24 rfl hc4 (oL · sc3 rfl rfl (ldI_out hp6)) (qG 20 25 rfl hc4 (oM · rfl) ?_)))
    try dsimp only [w0,w1,w2,w3]
    refine qG 20 26 rfl hc4 (oB · rfl rfl rfl) (qS 27 rfl (ok_pick_tt · (.tmp rfl) hc4 (.tmp rfl)) (rE ?_))
    try dsimp only [w0,w1,w2,w3]
    try dsimp only [w0,w1,w2,w3]
    exact J1_snd ih h
   ·refine q_skip (dst := some 21) (t := 20) rfl rfl rfl (bfalse hc4) ?_
    try dsimp only [w0,w1,w2,w3]
    refine q_skip (dst := some 22) (t := 20) rfl rfl rfl (bfalse hc4) (q_skip (dst := some 23) (t := 20) rfl rfl rfl (bfalse hc4) (q_skip (dst := some 24) (t := 20) rfl rfl rfl (bfalse hc4) (q_skip (dst := some 25) (t := 20) rfl rfl rfl (bfalse hc4) ?_)))
    try dsimp only [w0,w1,w2,w3]
    refine q_skip (dst := some 26) (t := 20) rfl rfl rfl (bfalse hc4) (qS 27 rfl (ok_pick_ff · (.tmp rfl) (bfalse hc4) (.bool _)) (rE ?_))
    try dsimp only [w0,w1,w2,w3]
    try dsimp only [w0,w1,w2,w3]
    exact J1_snd ih h
  ·refine q_cond_f rfl (.tmp rfl) (decide_eq_false hc3) (q_exit rfl rfl (qQ rfl (qQ rfl (qR rfl rfl (qS 39 rfl (oM · rfl) (qS 40 rfl (ok_not · (.tmp rfl)) (rE ?_)))))))
   try dsimp only [w0,w1,w2,w3]
   rcases ifc h with ⟨hc16,h⟩ | ⟨hc16,h⟩
   ·obtain ⟨p17,hp17,h⟩ := leto h
    obtain ⟨p18,hp18,h⟩ := bindo h
    obtain ⟨p19,hp19,h⟩ := bindo h
    refine q_cond_t rfl (.tmp rfl) hc16 (qR rfl rfl (qS 41 rfl (oM · rfl) (qS 42 rfl (oM · rfl) (qS 43 rfl (ok_buildSlice_s (xs := [(.tmp 42)]) el41 · rfl rfl (by decide) (.cons (.tmp rfl) Evs.nil) rfl rfl hp17) (qS 44 rfl (ok_append (s := y5) (s1 := (p17.1)) el41 · rfl rfl ⟨_,tu41⟩ (.tmp rfl) (.tmp rfl) hp18 hp19) ?_)))))
    try dsimp only [w0,w1,w2,w3]
    refine qS 5 rfl (oA · rfl) (rE ?_)
    try dsimp only [w0,w1,w2,w3]
    try dsimp only [w0,w1,w2,w3]
    exact J3_snd  h
   ·refine q_cond_f rfl (.tmp rfl) (bfalse hc16) (q_skipc rfl ?_)
    try dsimp only [w0,w1,w2,w3]
    exact J3_snd  h
def f (k : Nat) (x0 : Sl) (x1 : Int) (S : HS) : Option ((Sl) × HS) :=
 (Option.bind (rollcallref10_Has.f k x0 x1 S) fun p1 =>
 (if p1.1 = true then
 some (x0,p1.2) else
 L0 k k x0 x1 Sl.nil false 0 p1.2))
theorem snd {k : Nat} {x0 : Sl} {x1 : Int} {S : HS}  {p : (Sl) × HS} (h : f k x0 x1 S = some p) : HCall Tryz.prog base W0 β0 34 [(Sl.hv x0),(.int .i64 x1)] S (fun v S1 => v = (Sl.hv p.1) ∧ S1 = p.2) := by
 unfold f at h
 refine HCall.of_run at_.at_ body ?_
 show HRun Tryz.prog base W0 β0 34 none [.code c0] ⟨[(Sl.hv x0),(.int .i64 x1),τ,τ,τ,τ,τ,τ,τ,τ,τ,τ,τ,τ,τ,τ,τ,τ,τ,τ,τ,τ,τ,τ,τ,τ,τ,τ,τ,τ,τ,τ,τ,τ,τ,τ,τ,τ,τ,τ,τ,τ,τ,τ,τ,τ],[]⟩ S _
 refine qQ rfl (qR rfl rfl (qS 4 rfl (ok_assign · (.const fun _ => .slNil none)) (rE ?_)))
 try dsimp only [w0,w1,w2,w3]
 obtain ⟨p1,hp1,h⟩ := bindo h
 refine qQ rfl (qQ rfl (qR rfl rfl (qS 8 rfl (oM · rfl) (qS 9 rfl (oM · rfl) (q_call (dst := some 10) rfl (.func _) (.cons (.tmp rfl) (.cons (.tmp rfl) Evs.nil)) (HInv.static rollcallref10_Has.at_ rollcallref10_Has.body (rollcallref10_Has.snd  hp1)) ?_)))))
 rintro _ _ ⟨rfl,rfl⟩
 refine rE ?_
 try dsimp only [w0,w1,w2,w3]
 rcases ifc h with ⟨hc2,h⟩ | ⟨hc2,h⟩
 ·refine q_cond_t rfl (.tmp rfl) hc2 (qQ rfl (qR rfl rfl (qS 11 rfl (oM · rfl) (qS 4 rfl (oA · rfl) (rE ?_)))))
  try dsimp only [w0,w1,w2,w3]
  cases h
  exact q_ret rfl at_.at_ rfl (res1 rfl rfl) ⟨rfl,rfl⟩
 ·refine q_cond_f rfl (.tmp rfl) (bfalse hc2) (q_skipc rfl (qQ rfl (qR rfl rfl (qS 5 rfl (ok_assign · (.const fun _ => .slNil none)) (rE ?_)))))
  try dsimp only [w0,w1,w2,w3]
  refine qQ rfl (qR rfl rfl (qS 6 rfl (ok_assign · (.bool _)) (rE ?_)))
  try dsimp only [w0,w1,w2,w3]
  refine qQ rfl (qQ rfl (qR rfl rfl (qS 7 rfl (ok_assign · (.int _ _)) (rE ?_))))
  try dsimp only [w0,w1,w2,w3]
  refine q_block rfl (q_loop rfl ?_)
  try dsimp only [w0,w1,w2,w3]
  exact L0_snd  h
end
end rollcallref10_Add
namespace rollcallref21_Lists_By
theorem at_ : FnAt Tryz.prog 21 Tryz.f21 := ⟨Tryz.func21,by kernel_rfl⟩
noncomputable def d0 := (Tryz.f21.body).getD .skip
noncomputable def r1 := kR (kA d0)
noncomputable def r3 := kR (kA (kB d0))
noncomputable def d5 := kA (kB (kB d0))
noncomputable def r6 := kR (kA d5)
noncomputable def d9 := kA (kA (kB d5))
noncomputable def r11 := kR (kA (kA d9))
noncomputable def r18 := kR (kA (kA (kA (kB d9))))
noncomputable def r20 := kR (kA (kB (kA (kA (kB d9)))))
noncomputable def r22 := kR (kB (kB d9))
noncomputable def r24 := kR (kA (kB (kB (kB d0))))
noncomputable def c23 : Code := .seq (.region 7 r24 false) .ret
noncomputable def c22 : Code := .region 4 r22 false
noncomputable def c9 : Code := .seq (.seq (.region 3 r11 false) (.cond (.tmp 13) .skip (.exit 0))) (.seq (.block 1 (.seq (.region 5 r18 false) (.cond (.tmp 25) (.region 6 r20 false) .skip))) c22)
noncomputable def c0 : Code := .seq (.region 0 r1 false) (.seq (.region 1 r3 false) (.seq (.seq (.region 2 r6 false) (.block 0 (.loop c9))) c23))
theorem body : Tryz.f21.body = some c0 := by kernel_rfl
section
variable {base : Nat} {W0 : World} {β0 : Bt}
def J1 (k : Nat) (rec0 : (Option HA) → (List UInt8) → Sl → Int → HS → Option ((Sl) × HS)) (y0 : (Option HA)) (y1 : (List UInt8)) (y5 : Sl) (y6 : Int) (S : HS) : Option ((Sl) × HS) :=
 rec0 y0 y1 y5 (w64 (y6 + 1)) S
theorem J1_snd {k : Nat} {rec0 : (Option HA) → (List UInt8) → Sl → Int → HS → Option ((Sl) × HS)} (hrec0 : ∀ ⦃y0 : (Option HA)⦄ ⦃y1 : (List UInt8)⦄ ⦃y5 : Sl⦄ ⦃y6 : Int⦄ ⦃S : HS⦄ ⦃p : (Sl) × HS⦄ ⦃Gc Gd Ge Gh Gi Gj Gk Gl Gm Gn Go Gp Gq Gr Gs Gt Gu Gv Gw Gx Gy Gz Ka Kb Kc Kd Ke Kf Kg Kh Ki Kj Kk : HV⦄,rec0 y0 y1 y5 y6 S = some p → HRun Tryz.prog base W0 β0 21 none [.inLoop c9,.inBlock 0,.code c23] ⟨[(.ptr y0),(.str y1),Gc,Gd,Ge,(Sl.hv y5),(.int .i64 y6),Gh,Gi,Gj,Gk,Gl,Gm,Gn,Go,Gp,Gq,Gr,Gs,Gt,Gu,Gv,Gw,Gx,Gy,Gz,Ka,Kb,Kc,Kd,Ke,Kf,Kg,Kh,Ki,Kj,Kk],[]⟩ S (fun v S1 => v = (Sl.hv p.1) ∧ S1 = p.2)) {y0 : (Option HA)} {y1 : (List UInt8)} {y5 : Sl} {y6 : Int} {S : HS} {p : (Sl) × HS} {Gc Gd Ge Gh Gi Gj Gk Gl Gm Gn Go Gp Gq Gr Gs Gt Gu Gv Gw Gx Gy Gz Ka Kb Kc Kd Ke Kf Kg Kh Ki Kj Kk : HV} (h : J1 k rec0 y0 y1 y5 y6 S = some p) : HRun Tryz.prog base W0 β0 21 none [.code c22,.inLoop c9,.inBlock 0,.code c23] ⟨[(.ptr y0),(.str y1),Gc,Gd,Ge,(Sl.hv y5),(.int .i64 y6),Gh,Gi,Gj,Gk,Gl,Gm,Gn,Go,Gp,Gq,Gr,Gs,Gt,Gu,Gv,Gw,Gx,Gy,Gz,Ka,Kb,Kc,Kd,Ke,Kf,Kg,Kh,Ki,Kj,Kk],[]⟩ S (fun v S1 => v = (Sl.hv p.1) ∧ S1 = p.2) := by
 unfold J1 at h
 refine qR rfl rfl (qS 14 rfl (oM · rfl) (qS 15 rfl (oC · rfl rfl) (qS 6 rfl (oA · rfl) (rE ?_))))
 try dsimp only [w0,w1,w2,w3]
 try dsimp only [w0,w1,w2,w3]
 exact hrec0 h
def L0 (k : Nat) : Nat → (Option HA) → (List UInt8) → Sl → Int → HS → Option ((Sl) × HS)
 | 0,_,_,_,_,_ => none
 | n + 1,y0,y1,y5,y6,S =>
  (Option.bind (y0) fun p1 =>
  (Option.bind (HS.ldSl S (HA.fld p1 1)) fun p2 =>
  (if y6 < (Sl.len p2 : Int) then
  (Option.bind (y0) fun p4 =>
  (Option.bind (HS.ldSl S (HA.fld p4 1)) fun p5 =>
  (Option.bind (HS.idx S p5 y6 2) fun p6 =>
  (Option.bind (HS.ldS S (HA.fld p6 1)) fun p7 =>
  (Option.bind (rollcallref01_Same.f k p7 y1 S) fun p8 =>
  (if p8.1 = true then
  (Option.bind (y0) fun p10 =>
  (Option.bind (HS.ldSl p8.2 (HA.fld p10 1)) fun p11 =>
  (Option.bind (HS.idx p8.2 p11 y6 2) fun p12 =>
  (Option.bind (HS.ldI p8.2 .i64 (HA.fld p12 0)) fun p13 =>
  (Option.bind (rollcallref10_Add.f k y5 p13 p8.2) fun p14 =>
  J1 k (L0 k n) y0 y1 p14.1 y6 p14.2))))) else
  J1 k (L0 k n) y0 y1 y5 y6 p8.2)))))) else
  some (y5,S))))
theorem L0_snd {k : Nat}  : ∀ {n : Nat} ⦃y0 : (Option HA)⦄ ⦃y1 : (List UInt8)⦄ ⦃y5 : Sl⦄ ⦃y6 : Int⦄ ⦃S : HS⦄ ⦃p : (Sl) × HS⦄ ⦃Gc Gd Ge Gh Gi Gj Gk Gl Gm Gn Go Gp Gq Gr Gs Gt Gu Gv Gw Gx Gy Gz Ka Kb Kc Kd Ke Kf Kg Kh Ki Kj Kk : HV⦄,L0 k n y0 y1 y5 y6 S = some p → HRun Tryz.prog base W0 β0 21 none [.inLoop c9,.inBlock 0,.code c23] ⟨[(.ptr y0),(.str y1),Gc,Gd,Ge,(Sl.hv y5),(.int .i64 y6),Gh,Gi,Gj,Gk,Gl,Gm,Gn,Go,Gp,Gq,Gr,Gs,Gt,Gu,Gv,Gw,Gx,Gy,Gz,Ka,Kb,Kc,Kd,Ke,Kf,Kg,Kh,Ki,Kj,Kk],[]⟩ S (fun v S1 => v = (Sl.hv p.1) ∧ S1 = p.2) := by
 intro n
 induction n with
 | zero => intro _ _ _ _ _ _ _ _ _ _ _ _ _ _ _ _ _ _ _ _ _ _ _ _ _ _ _ _ _ _ _ _ _ _ _ _ _ _ _ h; cases h
 | succ n ih =>
  intro y0 y1 y5 y6 S p Gc Gd Ge Gh Gi Gj Gk Gl Gm Gn Go Gp Gq Gr Gs Gt Gu Gv Gw Gx Gy Gz Ka Kb Kc Kd Ke Kf Kg Kh Ki Kj Kk h
  simp only [L0] at h
  obtain ⟨p1,hp1,h⟩ := bindo h
  refine hr_inLoop (qQ rfl (qQ rfl (qR rfl rfl (qS 7 rfl (oM · rfl) (qS 8 rfl (oM · rfl) (qS 9 rfl (oN · rfl hp1) (qS 10 rfl (oF · fi30_1 (by decide) rfl rfl) ?_)))))))
  try dsimp only [w0,w1,w2,w3]
  obtain ⟨p2,hp2,h⟩ := bindo h
  refine qS 11 rfl (oL · sc28 rfl rfl (ldSl_out hp2)) (qS 12 rfl (ok_len_sl (q := Sl.a p2) (n := Sl.len p2) (z := Sl.cap p2) · rfl tu28 (.tmp rfl)) (qS 13 rfl (oB · rfl rfl rfl) (rE ?_)))
  try dsimp only [w0,w1,w2,w3]
  rcases ifc h with ⟨hc3,h⟩ | ⟨hc3,h⟩
  ·obtain ⟨p4,hp4,h⟩ := bindo h
   obtain ⟨p5,hp5,h⟩ := bindo h
   refine q_cond_t rfl (.tmp rfl) (decide_eq_true hc3) (q_skipc rfl (qQ rfl (q_block rfl (qQ rfl (qR rfl rfl (qS 16 rfl (oM · rfl) (qS 17 rfl (oN · rfl hp4) (qS 18 rfl (oF · fi30_1 (by decide) rfl rfl) (qS 19 rfl (oL · sc28 rfl rfl (ldSl_out hp5)) ?_)))))))))
   try dsimp only [w0,w1,w2,w3]
   obtain ⟨p6,hp6,h⟩ := bindo h
   obtain ⟨p7,hp7,h⟩ := bindo h
   refine qS 20 rfl (oM · rfl) (qS 21 rfl (oX (s := p5) · tu28 sz68 rfl rfl hp6) (qS 22 rfl (oF · fi68_1 (by decide) rfl rfl) (qS 23 rfl (oL · sc9 rfl rfl (ldS_out hp7)) ?_)))
   try dsimp only [w0,w1,w2,w3]
   obtain ⟨p8,hp8,h⟩ := bindo h
   refine qS 24 rfl (oM · rfl) (q_call (dst := some 25) rfl (.func _) (.cons (.tmp rfl) (.cons (.tmp rfl) Evs.nil)) (HInv.static rollcallref01_Same.at_ rollcallref01_Same.body (rollcallref01_Same.snd  hp8)) ?_)
   rintro _ _ ⟨rfl,rfl⟩
   refine rE ?_
   try dsimp only [w0,w1,w2,w3]
   rcases ifc h with ⟨hc9,h⟩ | ⟨hc9,h⟩
   ·obtain ⟨p10,hp10,h⟩ := bindo h
    refine q_cond_t rfl (.tmp rfl) hc9 (qR rfl rfl (qS 26 rfl (oM · rfl) (qS 27 rfl (oM · rfl) (qS 28 rfl (oN · rfl hp10) (qS 29 rfl (oF · fi30_1 (by decide) rfl rfl) ?_)))))
    try dsimp only [w0,w1,w2,w3]
    obtain ⟨p11,hp11,h⟩ := bindo h
    obtain ⟨p12,hp12,h⟩ := bindo h
    refine qS 30 rfl (oL · sc28 rfl rfl (ldSl_out hp11)) (qS 31 rfl (oM · rfl) (qS 32 rfl (oX (s := p11) · tu28 sz68 rfl rfl hp12) (qS 33 rfl (oF · fi68_0 (by decide) rfl rfl) ?_)))
    try dsimp only [w0,w1,w2,w3]
    obtain ⟨p13,hp13,h⟩ := bindo h
    obtain ⟨p14,hp14,h⟩ := bindo h
    refine qS 34 rfl (oL · sc3 rfl rfl (ldI_out hp13)) (q_call (dst := some 35) rfl (.func _) (.cons (.tmp rfl) (.cons (.tmp rfl) Evs.nil)) (HInv.static rollcallref10_Add.at_ rollcallref10_Add.body (rollcallref10_Add.snd  hp14)) ?_)
    rintro _ _ ⟨rfl,rfl⟩
    refine qS 5 rfl (oA · rfl) (rE ?_)
    try dsimp only [w0,w1,w2,w3]
    refine hr_inBlock ?_
    try dsimp only [w0,w1,w2,w3]
    exact J1_snd ih h
   ·refine q_cond_f rfl (.tmp rfl) (bfalse hc9) (q_skipc rfl (hr_inBlock ?_))
    try dsimp only [w0,w1,w2,w3]
    exact J1_snd ih h
  ·refine q_cond_f rfl (.tmp rfl) (decide_eq_false hc3) (q_exit rfl rfl (qQ rfl (qR rfl rfl (qS 36 rfl (oM · rfl) (qS 4 rfl (oA · rfl) (rE ?_))))))
   try dsimp only [w0,w1,w2,w3]
   cases h
   exact q_ret rfl at_.at_ rfl (res1 rfl rfl) ⟨rfl,rfl⟩
def f (k : Nat) (x0 : (Option HA)) (x1 : (List UInt8)) (S : HS) : Option ((Sl) × HS) :=
 L0 k k x0 x1 Sl.nil 0 S
theorem snd {k : Nat} {x0 : (Option HA)} {x1 : (List UInt8)} {S : HS}  {p : (Sl) × HS} (h : f k x0 x1 S = some p) : HCall Tryz.prog base W0 β0 21 [(.ptr x0),(.str x1)] S (fun v S1 => v = (Sl.hv p.1) ∧ S1 = p.2) := by
 unfold f at h
 refine HCall.of_run at_.at_ body ?_
 show HRun Tryz.prog base W0 β0 21 none [.code c0] ⟨[(.ptr x0),(.str x1),τ,τ,τ,τ,τ,τ,τ,τ,τ,τ,τ,τ,τ,τ,τ,τ,τ,τ,τ,τ,τ,τ,τ,τ,τ,τ,τ,τ,τ,τ,τ,τ,τ,τ,τ],[]⟩ S _
 refine qQ rfl (qR rfl rfl (qS 4 rfl (ok_assign · (.const fun _ => .slNil none)) (rE ?_)))
 try dsimp only [w0,w1,w2,w3]
 refine qQ rfl (qR rfl rfl (qS 5 rfl (ok_assign · (.const fun _ => .slNil none)) (rE ?_)))
 try dsimp only [w0,w1,w2,w3]
 refine qQ rfl (qQ rfl (qR rfl rfl (qS 6 rfl (ok_assign · (.int _ _)) (rE ?_))))
 try dsimp only [w0,w1,w2,w3]
 refine q_block rfl (q_loop rfl ?_)
 try dsimp only [w0,w1,w2,w3]
 exact L0_snd  h
end
end rollcallref21_Lists_By
namespace rollcallref10_Same
theorem at_ : FnAt Tryz.prog 20 Tryz.f20 := ⟨Tryz.func20,by kernel_rfl⟩
noncomputable def d0 := (Tryz.f20.body).getD .skip
noncomputable def r1 := kR (kA d0)
noncomputable def r4 := kR (kA (kA (kB d0)))
noncomputable def r7 := kR (kA (kA (kB (kA (kB d0)))))
noncomputable def d11 := kA (kB (kB d0))
noncomputable def r12 := kR (kA d11)
noncomputable def d15 := kA (kA (kB d11))
noncomputable def r17 := kR (kA (kA d15))
noncomputable def r24 := kR (kA (kA (kA (kB d15))))
noncomputable def r27 := kR (kA (kA (kB (kA (kA (kB d15))))))
noncomputable def r30 := kR (kB (kB d15))
noncomputable def r32 := kR (kA (kB (kB (kB d0))))
noncomputable def c31 : Code := .seq (.region 8 r32 false) .ret
noncomputable def c15 : Code := .seq (.seq (.region 4 r17 false) (.cond (.tmp 14) .skip (.exit 0))) (.seq (.block 1 (.seq (.region 6 r24 true) (.cond (.tmp 25) (.seq (.region 7 r27 false) .ret) .skip))) (.region 5 r30 false))
noncomputable def c0 : Code := .seq (.region 0 r1 false) (.seq (.seq (.region 1 r4 false) (.cond (.tmp 10) (.seq (.region 2 r7 false) .ret) .skip)) (.seq (.seq (.region 3 r12 false) (.block 0 (.loop c15))) c31))
theorem body : Tryz.f20.body = some c0 := by kernel_rfl
section
variable {base : Nat} {W0 : World} {β0 : Bt}
def L0 (k : Nat) : Nat → Sl → Sl → Int → HS → Option ((Bool) × HS)
 | 0,_,_,_,_ => none
 | n + 1,y0,y1,y5,S =>
  (if y5 < (Sl.len y0 : Int) then
  (Option.bind (HS.idx S y0 y5 1) fun p3 =>
  (Option.bind (HS.ldI S .i64 p3) fun p4 =>
  (Option.bind (HS.idx S y1 y5 1) fun p5 =>
  (Option.bind (HS.ldI S .i64 p5) fun p6 =>
  (if (!decide (p4 = p6)) = true then
  some (false,S) else
  (L0 k n) y0 y1 (w64 (y5 + 1)) S))))) else
  some (true,S))
theorem L0_snd {k : Nat}  : ∀ {n : Nat} ⦃y0 : Sl⦄ ⦃y1 : Sl⦄ ⦃y5 : Int⦄ ⦃S : HS⦄ ⦃p : (Bool) × HS⦄ ⦃Gc Gd Ge Gg Gh Gi Gj Gk Gl Gm Gn Go Gp Gq Gr Gs Gt Gu Gv Gw Gx Gy Gz : HV⦄,L0 k n y0 y1 y5 S = some p → HRun Tryz.prog base W0 β0 20 none [.inLoop c15,.inBlock 0,.code c31] ⟨[(Sl.hv y0),(Sl.hv y1),Gc,Gd,Ge,(.int .i64 y5),Gg,Gh,Gi,Gj,Gk,Gl,Gm,Gn,Go,Gp,Gq,Gr,Gs,Gt,Gu,Gv,Gw,Gx,Gy,Gz],[]⟩ S (fun v S1 => v = (.bool p.1) ∧ S1 = p.2) := by
 intro n
 induction n with
 | zero => intro _ _ _ _ _ _ _ _ _ _ _ _ _ _ _ _ _ _ _ _ _ _ _ _ _ _ _ _ h; cases h
 | succ n ih =>
  intro y0 y1 y5 S p Gc Gd Ge Gg Gh Gi Gj Gk Gl Gm Gn Go Gp Gq Gr Gs Gt Gu Gv Gw Gx Gy Gz h
  simp only [L0] at h
  refine hr_inLoop (qQ rfl (qQ rfl (qR rfl rfl (qS 11 rfl (oM · rfl) (qS 12 rfl (oM · rfl) (qS 13 rfl (ok_len_sl (q := Sl.a y0) (n := Sl.len y0) (z := Sl.cap y0) · rfl tu41 (.tmp rfl)) (qS 14 rfl (oB · rfl rfl rfl) (rE ?_))))))))
  try dsimp only [w0,w1,w2,w3]
  rcases ifc h with ⟨hc2,h⟩ | ⟨hc2,h⟩
  ·refine q_cond_t rfl (.tmp rfl) (decide_eq_true hc2) (q_skipc rfl (qQ rfl (q_block rfl (qQ rfl ?_))))
   refine x_start (cls := [0,0,1,1,0,0,1,1,0]) (rk := [0,1,2,3,4,5,6,7,8]) rfl (by kernel_rfl) ?_
   refine yf 17 [0] rfl (oM · rfl) ?_
   refine yf 18 [5] rfl (oM · rfl) ?_
   obtain ⟨p3,hp3,h⟩ := bindo h
   refine yr 19 [17,18] rfl (oX (s := y0) · tu41 sz3 rfl rfl hp3) ?_
   obtain ⟨p4,hp4,h⟩ := bindo h
   refine yr 20 [19] rfl (oL · sc3 rfl rfl (ldI_out hp4)) ?_
   try dsimp only [w0,w1,w2,w3]
   refine yf 21 [1] rfl (oM · rfl) ?_
   refine yf 22 [5] rfl (oM · rfl) ?_
   obtain ⟨p5,hp5,h⟩ := bindo h
   refine yr 23 [21,22] rfl (oX (s := y1) · tu41 sz3 rfl rfl hp5) ?_
   obtain ⟨p6,hp6,h⟩ := bindo h
   refine yr 24 [23] rfl (oL · sc3 rfl rfl (ldI_out hp6)) ?_
   try dsimp only [w0,w1,w2,w3]
   refine yf 25 [20,24] rfl (oB · rfl rfl rfl) ?_
   refine x_rest rfl ?_
   refine rE ?_
   try dsimp only [w0,w1,w2,w3]
   rcases ifc h with ⟨hc7,h⟩ | ⟨hc7,h⟩
   ·refine q_cond_t rfl (.tmp rfl) hc7 (qQ rfl (qR rfl rfl (qS 4 rfl (ok_assign · (.bool _)) (rE ?_))))
    try dsimp only [w0,w1,w2,w3]
    cases h
    exact q_ret rfl at_.at_ rfl (res1 rfl rfl) ⟨rfl,rfl⟩
   ·refine q_cond_f rfl (.tmp rfl) (bfalse hc7) (q_skipc rfl (hr_inBlock (qR rfl rfl (qS 15 rfl (oM · rfl) (qS 16 rfl (oC · rfl rfl) (qS 5 rfl (oA · rfl) (rE ?_)))))))
    try dsimp only [w0,w1,w2,w3]
    try dsimp only [w0,w1,w2,w3]
    exact ih h
  ·refine q_cond_f rfl (.tmp rfl) (decide_eq_false hc2) (q_exit rfl rfl (qQ rfl (qR rfl rfl (qS 4 rfl (ok_assign · (.bool _)) (rE ?_)))))
   try dsimp only [w0,w1,w2,w3]
   cases h
   exact q_ret rfl at_.at_ rfl (res1 rfl rfl) ⟨rfl,rfl⟩
def f (k : Nat) (x0 : Sl) (x1 : Sl) (S : HS) : Option ((Bool) × HS) :=
 (if (!decide ((Sl.len x0 : Int) = (Sl.len x1 : Int))) = true then
 some (false,S) else
 L0 k k x0 x1 0 S)
theorem snd {k : Nat} {x0 : Sl} {x1 : Sl} {S : HS}  {p : (Bool) × HS} (h : f k x0 x1 S = some p) : HCall Tryz.prog base W0 β0 20 [(Sl.hv x0),(Sl.hv x1)] S (fun v S1 => v = (.bool p.1) ∧ S1 = p.2) := by
 unfold f at h
 refine HCall.of_run at_.at_ body ?_
 show HRun Tryz.prog base W0 β0 20 none [.code c0] ⟨[(Sl.hv x0),(Sl.hv x1),τ,τ,τ,τ,τ,τ,τ,τ,τ,τ,τ,τ,τ,τ,τ,τ,τ,τ,τ,τ,τ,τ,τ,τ],[]⟩ S _
 refine qQ rfl (qR rfl rfl (qS 4 rfl (ok_assign · (.bool _)) (rE ?_)))
 try dsimp only [w0,w1,w2,w3]
 refine qQ rfl (qQ rfl (qR rfl rfl (qS 6 rfl (oM · rfl) (qS 7 rfl (ok_len_sl (q := Sl.a x0) (n := Sl.len x0) (z := Sl.cap x0) · rfl tu41 (.tmp rfl)) (qS 8 rfl (oM · rfl) (qS 9 rfl (ok_len_sl (q := Sl.a x1) (n := Sl.len x1) (z := Sl.cap x1) · rfl tu41 (.tmp rfl)) ?_))))))
 try dsimp only [w0,w1,w2,w3]
 refine qS 10 rfl (oB · rfl rfl rfl) (rE ?_)
 try dsimp only [w0,w1,w2,w3]
 rcases ifc h with ⟨hc1,h⟩ | ⟨hc1,h⟩
 ·refine q_cond_t rfl (.tmp rfl) hc1 (qQ rfl (qR rfl rfl (qS 4 rfl (ok_assign · (.bool _)) (rE ?_))))
  try dsimp only [w0,w1,w2,w3]
  cases h
  exact q_ret rfl at_.at_ rfl (res1 rfl rfl) ⟨rfl,rfl⟩
 ·refine q_cond_f rfl (.tmp rfl) (bfalse hc1) (q_skipc rfl (qQ rfl (qQ rfl (qR rfl rfl (qS 5 rfl (ok_assign · (.int _ _)) (rE ?_))))))
  try dsimp only [w0,w1,w2,w3]
  refine q_block rfl (q_loop rfl ?_)
  try dsimp only [w0,w1,w2,w3]
  exact L0_snd  h
end
end rollcallref10_Same
end Go.Proofs.YtcphapfclncggaaGreatDoor.X
namespace Go.Proofs.YtcphapfclncggaaGreatDoor.X
open Go.Proofs.YtcphapfclncggaaGreatDoor.HL
set_option linter.unusedVariables false
set_option linter.unusedSimpArgs false
set_option maxRecDepth 20000
set_option maxHeartbeats 4000000
namespace rollcalllaw21_WishPlays
theorem at_ : FnAt Tryz.prog 3 Tryz.f3 := ⟨Tryz.func3,by kernel_rfl⟩
noncomputable def d0 := (Tryz.f3.body).getD .skip
noncomputable def r1 := kR (kA d0)
noncomputable def r4 := kR (kA (kA (kB d0)))
noncomputable def r7 := kR (kA (kA (kB (kA (kB d0)))))
noncomputable def r12 := kR (kA (kA (kB (kB d0))))
noncomputable def r15 := kR (kA (kA (kB (kA (kB (kB d0))))))
noncomputable def d18 := kB (kB (kB d0))
noncomputable def r19 := kR (kA d18)
noncomputable def r22 := kR (kA (kA (kB d18)))
noncomputable def d23 := kB (kA (kB d18))
noncomputable def r27 := kR (kA (kA (kA (kA d23))))
noncomputable def d31 := kB (kA (kA d23))
noncomputable def r34 := kR (kA (kA (kA d31)))
noncomputable def d35 := kB (kA (kA d31))
noncomputable def r36 := kR (kA d35)
noncomputable def r39 := kR (kA (kA (kB d35)))
noncomputable def d40 := kB (kA (kB d35))
noncomputable def r42 := kR (kA (kA d40))
noncomputable def r44 := kR (kA (kB (kA d40)))
noncomputable def r46 := kR (kA (kB (kB (kA d40))))
noncomputable def r48 := kR (kA (kB (kB (kB (kA d40)))))
noncomputable def r49 := kR (kB (kB (kB (kB (kA d40)))))
noncomputable def r51 := kR (kA (kB (kB d35)))
noncomputable def r53 := kR (kA (kB (kB (kB d35))))
noncomputable def r55 := kR (kA (kB (kB (kB (kB d35)))))
noncomputable def r58 := kR (kA (kA (kB (kB (kB (kB (kB d35)))))))
noncomputable def r61 := kR (kB d31)
noncomputable def r63 := kR (kA (kB (kB d18)))
noncomputable def c62 : Code := .seq (.region 21 r63 false) .ret
noncomputable def c61 : Code := .region 8 r61 false
noncomputable def c56 : Code := .cond (.tmp 151) (.seq (.region 20 r58 false) .ret) .skip
noncomputable def c50 : Code := .seq (.region 17 r51 false) (.seq (.region 18 r53 false) (.seq (.region 19 r55 true) c56))
noncomputable def c25 : Code := .seq (.seq (.region 7 r27 false) (.cond (.tmp 41) .skip (.exit 0))) (.seq (.block 1 (.seq (.region 9 r34 false) (.seq (.region 10 r36 false) (.seq (.seq (.region 11 r39 false) (.block 2 (.seq (.region 13 r42 false) (.cond (.tmp 63) (.region 14 r44 true) (.seq (.region 15 r46 false) (.cond (.tmp 78) (.region 16 r48 true) (.region 12 r49 true))))))) c50)))) c61)
noncomputable def c18 : Code := .seq (.region 5 r19 false) (.seq (.seq (.region 6 r22 false) (.block 0 (.loop c25))) c62)
noncomputable def c13 : Code := .cond (.tmp 32) (.seq (.region 4 r15 false) .ret) .skip
noncomputable def c0 : Code := .seq (.region 0 r1 false) (.seq (.seq (.region 1 r4 false) (.cond (.tmp 17) (.seq (.region 2 r7 false) .ret) .skip)) (.seq (.seq (.region 3 r12 false) c13) c18))
theorem body : Tryz.f3.body = some c0 := by kernel_rfl
section
variable {base : Nat} {W0 : World} {β0 : Bt}
def J5 (D : Dp) (H : Hd) (k : Nat) (rec0 : Sl → (List UInt8) → (Option HA) → (Option HA) → Int → HS → Option ((Bool) × HS)) (y1 : Sl) (y2 : (List UInt8)) (y7 : (Option HA)) (y8 : (Option HA)) (y9 : Int) (y151 : Bool) (S : HS) : Option ((Bool) × HS) :=
 (if y151 = true then
 some (false,S) else
 rec0 y1 y2 y7 y8 (w64 (y9 + 1)) S)
theorem J5_snd {D : Dp} {H : Hd} {k : Nat} {rec0 : Sl → (List UInt8) → (Option HA) → (Option HA) → Int → HS → Option ((Bool) × HS)} (hD : DSound Tryz.prog base W0 D) (hH : HSound Tryz.prog base W0 β0 H) (hrec0 : ∀ ⦃y1 : Sl⦄ ⦃y2 : (List UInt8)⦄ ⦃y7 : (Option HA)⦄ ⦃y8 : (Option HA)⦄ ⦃y9 : Int⦄ ⦃S : HS⦄ ⦃p : (Bool) × HS⦄ ⦃Ga Gd Ge Gf Gg Gk Gl Gm Gn Go Gp Gq Gr Gs Gt Gu Gv Gw Gx Gy Gz Ka Kb Kc Kd Ke Kf Kg Kh Ki Kj Kk Kl Km Kn Ko Kp Kq Kr Ks Kt Ku Kv Kw Kx Ky Kz Ma Mb Mc Md Me Mf Mg Mh Mi Mj Mk Ml Mm Mn Mo Mp Mq Mr Ms Mt Mu Mv Mw Mx My Mz Na Nb Nc Nd Ne Nf Ng Nh Ni Nj Nk Nl Nm Nn No Np Nq Nr Ns Nt Nu Nv Nw Nx Ny Nz Qa Qb Qc Qd Qe Qf Qg Qh Qi Qj Qk Ql Qm Qn Qo Qp Qq Qr Qs Qt Qu Qv Qw Qx Qy Qz Ua Ub Uc Ud Ue Uf Ug Uh Ui Uj Uk Ul Um Un Uo Up Uq Ur Us Ut Uu Uv : HV⦄,rec0 y1 y2 y7 y8 y9 S = some p → HRun Tryz.prog base W0 β0 3 none [.inLoop c25,.inBlock 0,.code c62] ⟨[Ga,(Sl.hv y1),(.str y2),Gd,Ge,Gf,Gg,(.ptr y7),(.ptr y8),(.int .i64 y9),Gk,Gl,Gm,Gn,Go,Gp,Gq,Gr,Gs,Gt,Gu,Gv,Gw,Gx,Gy,Gz,Ka,Kb,Kc,Kd,Ke,Kf,Kg,Kh,Ki,Kj,Kk,Kl,Km,Kn,Ko,Kp,Kq,Kr,Ks,Kt,Ku,Kv,Kw,Kx,Ky,Kz,Ma,Mb,Mc,Md,Me,Mf,Mg,Mh,Mi,Mj,Mk,Ml,Mm,Mn,Mo,Mp,Mq,Mr,Ms,Mt,Mu,Mv,Mw,Mx,My,Mz,Na,Nb,Nc,Nd,Ne,Nf,Ng,Nh,Ni,Nj,Nk,Nl,Nm,Nn,No,Np,Nq,Nr,Ns,Nt,Nu,Nv,Nw,Nx,Ny,Nz,Qa,Qb,Qc,Qd,Qe,Qf,Qg,Qh,Qi,Qj,Qk,Ql,Qm,Qn,Qo,Qp,Qq,Qr,Qs,Qt,Qu,Qv,Qw,Qx,Qy,Qz,Ua,Ub,Uc,Ud,Ue,Uf,Ug,Uh,Ui,Uj,Uk,Ul,Um,Un,Uo,Up,Uq,Ur,Us,Ut,Uu,Uv],[]⟩ S (fun v S1 => v = (.bool p.1) ∧ S1 = p.2)) {y1 : Sl} {y2 : (List UInt8)} {y7 : (Option HA)} {y8 : (Option HA)} {y9 : Int} {y151 : Bool} {S : HS} {p : (Bool) × HS} {Ga Gd Ge Gf Gg Gk Gl Gm Gn Go Gp Gq Gr Gs Gt Gu Gv Gw Gx Gy Gz Ka Kb Kc Kd Ke Kf Kg Kh Ki Kj Kk Kl Km Kn Ko Kp Kq Kr Ks Kt Ku Kv Kw Kx Ky Kz Ma Mb Mc Md Me Mf Mg Mh Mi Mj Mk Ml Mm Mn Mo Mp Mq Mr Ms Mt Mu Mv Mw Mx My Mz Na Nb Nc Nd Ne Nf Ng Nh Ni Nj Nk Nl Nm Nn No Np Nq Nr Ns Nt Nu Nv Nw Nx Ny Nz Qa Qb Qc Qd Qe Qf Qg Qh Qi Qj Qk Ql Qm Qn Qo Qp Qq Qr Qs Qt Qu Qv Qw Qx Qy Qz Ua Ub Uc Ud Ue Uf Ug Uh Ui Uj Uk Ul Um Un Uo Up Uq Ur Us Ut Uu : HV} (h : J5 D H k rec0 y1 y2 y7 y8 y9 y151 S = some p) : HRun Tryz.prog base W0 β0 3 none [.code c56,.inBlock 1,.code c61,.inLoop c25,.inBlock 0,.code c62] ⟨[Ga,(Sl.hv y1),(.str y2),Gd,Ge,Gf,Gg,(.ptr y7),(.ptr y8),(.int .i64 y9),Gk,Gl,Gm,Gn,Go,Gp,Gq,Gr,Gs,Gt,Gu,Gv,Gw,Gx,Gy,Gz,Ka,Kb,Kc,Kd,Ke,Kf,Kg,Kh,Ki,Kj,Kk,Kl,Km,Kn,Ko,Kp,Kq,Kr,Ks,Kt,Ku,Kv,Kw,Kx,Ky,Kz,Ma,Mb,Mc,Md,Me,Mf,Mg,Mh,Mi,Mj,Mk,Ml,Mm,Mn,Mo,Mp,Mq,Mr,Ms,Mt,Mu,Mv,Mw,Mx,My,Mz,Na,Nb,Nc,Nd,Ne,Nf,Ng,Nh,Ni,Nj,Nk,Nl,Nm,Nn,No,Np,Nq,Nr,Ns,Nt,Nu,Nv,Nw,Nx,Ny,Nz,Qa,Qb,Qc,Qd,Qe,Qf,Qg,Qh,Qi,Qj,Qk,Ql,Qm,Qn,Qo,Qp,Qq,Qr,Qs,Qt,Qu,Qv,Qw,Qx,Qy,Qz,Ua,Ub,Uc,Ud,Ue,Uf,Ug,Uh,Ui,Uj,Uk,Ul,Um,Un,Uo,Up,Uq,Ur,Us,Ut,Uu,(.bool y151)],[]⟩ S (fun v S1 => v = (.bool p.1) ∧ S1 = p.2) := by
 unfold J5 at h
 rcases ifc h with ⟨hc34,h⟩ | ⟨hc34,h⟩
 ·refine q_cond_t rfl (.tmp rfl) hc34 (qQ rfl (qR rfl rfl (qS 6 rfl (ok_assign · (.bool _)) (rE ?_))))
  try dsimp only [w0,w1,w2,w3]
  cases h
  exact q_ret rfl at_.at_ rfl (res1 rfl rfl) ⟨rfl,rfl⟩
 ·refine q_cond_f rfl (.tmp rfl) (bfalse hc34) (q_skipc rfl (hr_inBlock (qR rfl rfl (qS 42 rfl (oM · rfl) (qS 43 rfl (oC · rfl rfl) (qS 9 rfl (oA · rfl) (rE ?_)))))))
  try dsimp only [w0,w1,w2,w3]
  try dsimp only [w0,w1,w2,w3]
  exact hrec0 h
def J4 (D : Dp) (H : Hd) (k : Nat) (rec0 : Sl → (List UInt8) → (Option HA) → (Option HA) → Int → HS → Option ((Bool) × HS)) (y1 : Sl) (y2 : (List UInt8)) (y7 : (Option HA)) (y8 : (Option HA)) (y9 : Int) (y10 : (Option HA)) (y11 : Bool) (S : HS) : Option ((Bool) × HS) :=
 (Option.bind (y10) fun p29 =>
 (Option.bind (HS.ldI S .i64 (HA.fld p29 1)) fun p30 =>
 (Option.bind (rollcalllaw21_names.f D H y7 p30 S) fun p31 =>
 (Option.bind (rollcalllaw21_clients.f D H k y7 y2 p31.2) fun p32 =>
 (if (!y11) = true then
 J5 D H k rec0 y1 y2 y7 y8 y9 true p32.2 else
 (if (!p31.1.2) = true then
 J5 D H k rec0 y1 y2 y7 y8 y9 true p32.2 else
 (if (!p32.1.2) = true then
 J5 D H k rec0 y1 y2 y7 y8 y9 true p32.2 else
 (Option.bind (y10) fun p37 =>
 (Option.bind (HS.ldI p32.2 .i64 (HA.fld p37 1)) fun p38 =>
 (Option.bind (wish_Lists_Count.f y7 p38 p32.2) fun p39 =>
 (if (!decide (p39.1 = (Sl.len p31.1.1 : Int))) = true then
 J5 D H k rec0 y1 y2 y7 y8 y9 true p39.2 else
 (Option.bind (y10) fun p41 =>
 (Option.bind (HS.ldI p39.2 .i64 (HA.fld p41 1)) fun p42 =>
 (Option.bind (wish_Lists_Has.f k y7 p42 y2 p39.2) fun p43 =>
 (Option.bind (y10) fun p44 =>
 (Option.bind (HS.ldI p43.2 .i64 (HA.fld p44 1)) fun p45 =>
 (Option.bind (HS.ldI p39.2 .i64 (HA.fld p44 1)) fun p46 =>
 (if p46 = p45 then
 (Option.bind (rollcallref21_Lists_At.f k y8 p45 y2 p43.2) fun p48 =>
 (if (!(p43.1 == (decide (p48.1 ≥ 0)))) = true then
 J5 D H k rec0 y1 y2 y7 y8 y9 true p48.2 else
 (Option.bind (y10) fun p50 =>
 (Option.bind (HS.ldI p48.2 .i64 (HA.fld p50 1)) fun p51 =>
 (Option.bind (rollcallref21_Lists_Of.f k y8 p51 p48.2) fun p52 =>
 (Option.bind (rollcallref01_Texts.f k p31.1.1 p52.1 p52.2) fun p53 =>
 (if (!p53.1) = true then
 J5 D H k rec0 y1 y2 y7 y8 y9 true p53.2 else
 (Option.bind (rollcallref21_Lists_By.f k y8 y2 p53.2) fun p55 =>
 (Option.bind (rollcallref10_Same.f k p32.1.1 p55.1 p55.2) fun p56 =>
 J5 D H k rec0 y1 y2 y7 y8 y9 (!p56.1) p56.2))))))))) else none))))))))))))))))))
theorem J4_snd {D : Dp} {H : Hd} {k : Nat} {rec0 : Sl → (List UInt8) → (Option HA) → (Option HA) → Int → HS → Option ((Bool) × HS)} (hD : DSound Tryz.prog base W0 D) (hH : HSound Tryz.prog base W0 β0 H) (hrec0 : ∀ ⦃y1 : Sl⦄ ⦃y2 : (List UInt8)⦄ ⦃y7 : (Option HA)⦄ ⦃y8 : (Option HA)⦄ ⦃y9 : Int⦄ ⦃S : HS⦄ ⦃p : (Bool) × HS⦄ ⦃Ga Gd Ge Gf Gg Gk Gl Gm Gn Go Gp Gq Gr Gs Gt Gu Gv Gw Gx Gy Gz Ka Kb Kc Kd Ke Kf Kg Kh Ki Kj Kk Kl Km Kn Ko Kp Kq Kr Ks Kt Ku Kv Kw Kx Ky Kz Ma Mb Mc Md Me Mf Mg Mh Mi Mj Mk Ml Mm Mn Mo Mp Mq Mr Ms Mt Mu Mv Mw Mx My Mz Na Nb Nc Nd Ne Nf Ng Nh Ni Nj Nk Nl Nm Nn No Np Nq Nr Ns Nt Nu Nv Nw Nx Ny Nz Qa Qb Qc Qd Qe Qf Qg Qh Qi Qj Qk Ql Qm Qn Qo Qp Qq Qr Qs Qt Qu Qv Qw Qx Qy Qz Ua Ub Uc Ud Ue Uf Ug Uh Ui Uj Uk Ul Um Un Uo Up Uq Ur Us Ut Uu Uv : HV⦄,rec0 y1 y2 y7 y8 y9 S = some p → HRun Tryz.prog base W0 β0 3 none [.inLoop c25,.inBlock 0,.code c62] ⟨[Ga,(Sl.hv y1),(.str y2),Gd,Ge,Gf,Gg,(.ptr y7),(.ptr y8),(.int .i64 y9),Gk,Gl,Gm,Gn,Go,Gp,Gq,Gr,Gs,Gt,Gu,Gv,Gw,Gx,Gy,Gz,Ka,Kb,Kc,Kd,Ke,Kf,Kg,Kh,Ki,Kj,Kk,Kl,Km,Kn,Ko,Kp,Kq,Kr,Ks,Kt,Ku,Kv,Kw,Kx,Ky,Kz,Ma,Mb,Mc,Md,Me,Mf,Mg,Mh,Mi,Mj,Mk,Ml,Mm,Mn,Mo,Mp,Mq,Mr,Ms,Mt,Mu,Mv,Mw,Mx,My,Mz,Na,Nb,Nc,Nd,Ne,Nf,Ng,Nh,Ni,Nj,Nk,Nl,Nm,Nn,No,Np,Nq,Nr,Ns,Nt,Nu,Nv,Nw,Nx,Ny,Nz,Qa,Qb,Qc,Qd,Qe,Qf,Qg,Qh,Qi,Qj,Qk,Ql,Qm,Qn,Qo,Qp,Qq,Qr,Qs,Qt,Qu,Qv,Qw,Qx,Qy,Qz,Ua,Ub,Uc,Ud,Ue,Uf,Ug,Uh,Ui,Uj,Uk,Ul,Um,Un,Uo,Up,Uq,Ur,Us,Ut,Uu,Uv],[]⟩ S (fun v S1 => v = (.bool p.1) ∧ S1 = p.2)) {y1 : Sl} {y2 : (List UInt8)} {y7 : (Option HA)} {y8 : (Option HA)} {y9 : Int} {y10 : (Option HA)} {y11 : Bool} {S : HS} {p : (Bool) × HS} {Ga Gd Ge Gf Gg Gm Gn Go Gp Gq Gr Gs Gt Gu Gv Gw Gx Gy Gz Ka Kb Kc Kd Ke Kf Kg Kh Ki Kj Kk Kl Km Kn Ko Kp Kq Kr Ks Kt Ku Kv Kw Kx Ky Kz Ma Mb Mc Md Me Mf Mg Mh Mi Mj Mk Ml Mm Mn Mo Mp Mq Mr Ms Mt Mu Mv Mw Mx My Mz Na Nb Nc Nd Ne Nf Ng Nh Ni Nj Nk Nl Nm Nn No Np Nq Nr Ns Nt Nu Nv Nw Nx Ny Nz Qa Qb Qc Qd Qe Qf Qg Qh Qi Qj Qk Ql Qm Qn Qo Qp Qq Qr Qs Qt Qu Qv Qw Qx Qy Qz Ua Ub Uc Ud Ue Uf Ug Uh Ui Uj Uk Ul Um Un Uo Up Uq Ur Us Ut Uu Uv : HV} (h : J4 D H k rec0 y1 y2 y7 y8 y9 y10 y11 S = some p) : HRun Tryz.prog base W0 β0 3 none [.code c50,.inBlock 1,.code c61,.inLoop c25,.inBlock 0,.code c62] ⟨[Ga,(Sl.hv y1),(.str y2),Gd,Ge,Gf,Gg,(.ptr y7),(.ptr y8),(.int .i64 y9),(.ptr y10),(.bool y11),Gm,Gn,Go,Gp,Gq,Gr,Gs,Gt,Gu,Gv,Gw,Gx,Gy,Gz,Ka,Kb,Kc,Kd,Ke,Kf,Kg,Kh,Ki,Kj,Kk,Kl,Km,Kn,Ko,Kp,Kq,Kr,Ks,Kt,Ku,Kv,Kw,Kx,Ky,Kz,Ma,Mb,Mc,Md,Me,Mf,Mg,Mh,Mi,Mj,Mk,Ml,Mm,Mn,Mo,Mp,Mq,Mr,Ms,Mt,Mu,Mv,Mw,Mx,My,Mz,Na,Nb,Nc,Nd,Ne,Nf,Ng,Nh,Ni,Nj,Nk,Nl,Nm,Nn,No,Np,Nq,Nr,Ns,Nt,Nu,Nv,Nw,Nx,Ny,Nz,Qa,Qb,Qc,Qd,Qe,Qf,Qg,Qh,Qi,Qj,Qk,Ql,Qm,Qn,Qo,Qp,Qq,Qr,Qs,Qt,Qu,Qv,Qw,Qx,Qy,Qz,Ua,Ub,Uc,Ud,Ue,Uf,Ug,Uh,Ui,Uj,Uk,Ul,Um,Un,Uo,Up,Uq,Ur,Us,Ut,Uu,Uv],[]⟩ S (fun v S1 => v = (.bool p.1) ∧ S1 = p.2) := by
 unfold J4 at h
 obtain ⟨p29,hp29,h⟩ := bindo h
 obtain ⟨p30,hp30,h⟩ := bindo h
 obtain ⟨p31,hp31,h⟩ := bindo h
 refine qQ rfl (qR rfl rfl (qS 90 rfl (oM · rfl) (qS 91 rfl (oF · fi32_1 (by decide) rfl hp29) (qS 92 rfl (oL · sc3 rfl rfl (ldI_out hp30)) (q_call (dst := some 93) rfl (.func _) (.cons (.tmp rfl) (.cons (.tmp rfl) Evs.nil)) (HInv.static rollcalllaw21_names.at_ rollcalllaw21_names.body (rollcalllaw21_names.snd hD hH hp31)) ?_)))))
 rintro _ _ ⟨rfl,rfl⟩
 try dsimp only [w0,w1,w2,w3]
 refine qS 89 rfl (oM · rfl) (qS 94 rfl (ok_extract · (.tmp rfl) rfl) (qS 95 rfl (ok_extract · (.tmp rfl) rfl) (qS 12 rfl (oA · rfl) ?_)))
 try dsimp only [w0,w1,w2,w3]
 refine qS 13 rfl (oA · rfl) (rE ?_)
 try dsimp only [w0,w1,w2,w3]
 obtain ⟨p32,hp32,h⟩ := bindo h
 refine qQ rfl (qR rfl rfl (qS 97 rfl (oM · rfl) (qS 98 rfl (oM · rfl) (q_call (dst := some 99) rfl (.func _) (.cons (.tmp rfl) (.cons (.tmp rfl) Evs.nil)) (HInv.static rollcalllaw21_clients.at_ rollcalllaw21_clients.body (rollcalllaw21_clients.snd hD hH hp32)) ?_))))
 rintro _ _ ⟨rfl,rfl⟩
 refine qS 96 rfl (oM · rfl) ?_
 try dsimp only [w0,w1,w2,w3]
 refine qS 100 rfl (ok_extract · (.tmp rfl) rfl) (qS 101 rfl (ok_extract · (.tmp rfl) rfl) (qS 14 rfl (oA · rfl) (qS 15 rfl (oA · rfl) (rE ?_))))
 try dsimp only [w0,w1,w2,w3]
 refine qQ rfl ?_
 refine x_start (cls := [0,0,0,0,0,0,0,0,0,0,0,0,0,1,2,0,0,0,0,0,0,0,1,0,2,0,0,3,0,2,0,0,0,0,0,0,0,1,2,2,0,0,0,0,0,0,2,2,0,0]) (rk := [0,1,2,3,4,5,6,7,8,9,10,11,12,13,14,15,16,17,18,19,20,21,22,23,24,25,26,27,28,29,30,31,32,33,34,35,36,37,38,39,40,41,42,43,44,45,46,47,48,49]) rfl (by kernel_rfl) ?_
 refine xf 102 [11] rfl (oM · rfl) ?_
 refine xf 103 [102] rfl (ok_not · (.tmp rfl)) ?_
 refine xf 104 [103] rfl (oM · rfl) ?_
 rcases ifc h with ⟨hc33,h⟩ | ⟨hc33,h⟩
 ·refine xfs 105 104 [13,104] rfl hc33 ?_
  try dsimp only [w0,w1,w2,w3]
  refine xfs 106 104 [105,104] rfl hc33 ?_
  refine xf 107 [104,106] rfl (ok_pick_tt · (.tmp rfl) hc33 (.bool _)) ?_
  refine xf 108 [107] rfl (oM · rfl) ?_
  refine xfs 109 108 [15,108] rfl rfl ?_
  try dsimp only [w0,w1,w2,w3]
  refine xfs 110 108 [109,108] rfl rfl ?_
  refine xf 111 [108,110] rfl (ok_pick_tt · (.tmp rfl) rfl (.bool _)) ?_
  refine xf 112 [111] rfl (oM · rfl) ?_
  refine xfs 113 112 [7,112] rfl rfl ?_
  try dsimp only [w0,w1,w2,w3]
  refine xfs 114 112 [10,112] rfl rfl ?_
  refine xrs 115 112 [114,112] rfl rfl ?_
  refine zes 116 112 [113,115,112] rfl rfl trivial ?_
  refine xfs 117 112 [12,112] rfl rfl ?_
  try dsimp only [w0,w1,w2,w3]
  refine xfs 118 112 [117,112] rfl rfl ?_
  refine xfs 119 112 [116,118,112] rfl rfl ?_
  refine xf 120 [112,119] rfl (ok_pick_tt · (.tmp rfl) rfl (.bool _)) ?_
  refine xf 121 [120] rfl (oM · rfl) ?_
  try dsimp only [w0,w1,w2,w3]
  refine xfs 122 121 [7,121] rfl rfl ?_
  refine xfs 123 121 [10,121] rfl rfl ?_
  refine xrs 124 121 [123,121] rfl rfl ?_
  refine xfs 125 121 [2,121] rfl rfl ?_
  try dsimp only [w0,w1,w2,w3]
  refine zes 126 121 [122,124,125,121] rfl rfl trivial ?_
  refine xfs 127 121 [8,121] rfl rfl ?_
  refine xfs 128 121 [10,121] rfl rfl ?_
  refine x_late (r_skip (dst := some 129) (t := 121) (ts := [128,121]) rfl (by kernel_rfl) rfl rfl rfl) rfl ⟨.inr (l_skip (dst := some 129) (t := 121) (ts := [128,121]) rfl (by kernel_rfl) rfl rfl rfl),.inl (by kernel_rfl),trivial⟩ ?_
  try dsimp only [w0,w1,w2,w3]
  refine xfs 130 121 [2,121] rfl rfl ?_
  refine zes 131 121 [127,129,130,121] rfl rfl ⟨.inl (by kernel_rfl),trivial⟩ ?_
  refine xfs 132 121 [131,121] rfl rfl ?_
  refine xfs 133 121 [126,132,121] rfl rfl ?_
  try dsimp only [w0,w1,w2,w3]
  refine xf 134 [121,133] rfl (ok_pick_tt · (.tmp rfl) rfl (.bool _)) ?_
  refine xf 135 [134] rfl (oM · rfl) ?_
  refine xfs 136 135 [12,135] rfl rfl ?_
  refine xfs 137 135 [8,135] rfl rfl ?_
  try dsimp only [w0,w1,w2,w3]
  refine xfs 138 135 [10,135] rfl rfl ?_
  refine xrs 139 135 [138,135] rfl rfl ?_
  refine zes 140 135 [137,139,135] rfl rfl ⟨.inl (by kernel_rfl),trivial⟩ ?_
  refine zes 141 135 [136,140,135] rfl rfl ⟨.inl (by kernel_rfl),trivial⟩ ?_
  try dsimp only [w0,w1,w2,w3]
  refine xfs 142 135 [141,135] rfl rfl ?_
  refine xf 143 [135,142] rfl (ok_pick_tt · (.tmp rfl) rfl (.bool _)) ?_
  refine xf 144 [143] rfl (oM · rfl) ?_
  refine xfs 145 144 [14,144] rfl rfl ?_
  try dsimp only [w0,w1,w2,w3]
  refine xfs 146 144 [8,144] rfl rfl ?_
  refine xfs 147 144 [2,144] rfl rfl ?_
  refine zes 148 144 [146,147,144] rfl rfl ⟨.inl (by kernel_rfl),trivial⟩ ?_
  refine zes 149 144 [145,148,144] rfl rfl ⟨.inl (by kernel_rfl),trivial⟩ ?_
  try dsimp only [w0,w1,w2,w3]
  refine xfs 150 144 [149,144] rfl rfl ?_
  refine xf 151 [144,150] rfl (ok_pick_tt · (.tmp rfl) rfl (.bool _)) ?_
  refine x_rest rfl ?_
  refine rE ?_
  try dsimp only [w0,w1,w2,w3]
  try dsimp only [w0,w1,w2,w3]
  exact J5_snd hD hH hrec0 h
 ·refine xfg 105 104 [13,104] rfl (bfalse hc33) (oM · rfl) ?_
  try dsimp only [w0,w1,w2,w3]
  refine xfg 106 104 [105,104] rfl (bfalse hc33) (ok_not · (.tmp rfl)) ?_
  refine xf 107 [104,106] rfl (ok_pick_ff · (.tmp rfl) (bfalse hc33) (.tmp rfl)) ?_
  refine xf 108 [107] rfl (oM · rfl) ?_
  rcases ifc h with ⟨hc35,h⟩ | ⟨hc35,h⟩
  ·refine xfs 109 108 [15,108] rfl hc35 ?_
   try dsimp only [w0,w1,w2,w3]
   refine xfs 110 108 [109,108] rfl hc35 ?_
   refine xf 111 [108,110] rfl (ok_pick_tt · (.tmp rfl) hc35 (.bool _)) ?_
   refine xf 112 [111] rfl (oM · rfl) ?_
   refine xfs 113 112 [7,112] rfl rfl ?_
   try dsimp only [w0,w1,w2,w3]
   refine xfs 114 112 [10,112] rfl rfl ?_
   refine xrs 115 112 [114,112] rfl rfl ?_
   refine zes 116 112 [113,115,112] rfl rfl trivial ?_
   refine xfs 117 112 [12,112] rfl rfl ?_
   try dsimp only [w0,w1,w2,w3]
   refine xfs 118 112 [117,112] rfl rfl ?_
   refine xfs 119 112 [116,118,112] rfl rfl ?_
   refine xf 120 [112,119] rfl (ok_pick_tt · (.tmp rfl) rfl (.bool _)) ?_
   refine xf 121 [120] rfl (oM · rfl) ?_
   try dsimp only [w0,w1,w2,w3]
   refine xfs 122 121 [7,121] rfl rfl ?_
   refine xfs 123 121 [10,121] rfl rfl ?_
   refine xrs 124 121 [123,121] rfl rfl ?_
   refine xfs 125 121 [2,121] rfl rfl ?_
   try dsimp only [w0,w1,w2,w3]
   refine zes 126 121 [122,124,125,121] rfl rfl trivial ?_
   refine xfs 127 121 [8,121] rfl rfl ?_
   refine xfs 128 121 [10,121] rfl rfl ?_
   refine x_late (r_skip (dst := some 129) (t := 121) (ts := [128,121]) rfl (by kernel_rfl) rfl rfl rfl) rfl ⟨.inr (l_skip (dst := some 129) (t := 121) (ts := [128,121]) rfl (by kernel_rfl) rfl rfl rfl),.inl (by kernel_rfl),trivial⟩ ?_
   try dsimp only [w0,w1,w2,w3]
   refine xfs 130 121 [2,121] rfl rfl ?_
   refine zes 131 121 [127,129,130,121] rfl rfl ⟨.inl (by kernel_rfl),trivial⟩ ?_
   refine xfs 132 121 [131,121] rfl rfl ?_
   refine xfs 133 121 [126,132,121] rfl rfl ?_
   try dsimp only [w0,w1,w2,w3]
   refine xf 134 [121,133] rfl (ok_pick_tt · (.tmp rfl) rfl (.bool _)) ?_
   refine xf 135 [134] rfl (oM · rfl) ?_
   refine xfs 136 135 [12,135] rfl rfl ?_
   refine xfs 137 135 [8,135] rfl rfl ?_
   try dsimp only [w0,w1,w2,w3]
   refine xfs 138 135 [10,135] rfl rfl ?_
   refine xrs 139 135 [138,135] rfl rfl ?_
   refine zes 140 135 [137,139,135] rfl rfl ⟨.inl (by kernel_rfl),trivial⟩ ?_
   refine zes 141 135 [136,140,135] rfl rfl ⟨.inl (by kernel_rfl),trivial⟩ ?_
   try dsimp only [w0,w1,w2,w3]
   refine xfs 142 135 [141,135] rfl rfl ?_
   refine xf 143 [135,142] rfl (ok_pick_tt · (.tmp rfl) rfl (.bool _)) ?_
   refine xf 144 [143] rfl (oM · rfl) ?_
   refine xfs 145 144 [14,144] rfl rfl ?_
   try dsimp only [w0,w1,w2,w3]
   refine xfs 146 144 [8,144] rfl rfl ?_
   refine xfs 147 144 [2,144] rfl rfl ?_
   refine zes 148 144 [146,147,144] rfl rfl ⟨.inl (by kernel_rfl),trivial⟩ ?_
   refine zes 149 144 [145,148,144] rfl rfl ⟨.inl (by kernel_rfl),trivial⟩ ?_
   try dsimp only [w0,w1,w2,w3]
   refine xfs 150 144 [149,144] rfl rfl ?_
   refine xf 151 [144,150] rfl (ok_pick_tt · (.tmp rfl) rfl (.bool _)) ?_
   refine x_rest rfl ?_
   refine rE ?_
   try dsimp only [w0,w1,w2,w3]
   try dsimp only [w0,w1,w2,w3]
   exact J5_snd hD hH hrec0 h
  ·refine xfg 109 108 [15,108] rfl (bfalse hc35) (oM · rfl) ?_
   try dsimp only [w0,w1,w2,w3]
   refine xfg 110 108 [109,108] rfl (bfalse hc35) (ok_not · (.tmp rfl)) ?_
   refine xf 111 [108,110] rfl (ok_pick_ff · (.tmp rfl) (bfalse hc35) (.tmp rfl)) ?_
   refine xf 112 [111] rfl (oM · rfl) ?_
   rcases ifc h with ⟨hc36,h⟩ | ⟨hc36,h⟩
   ·refine xfs 113 112 [7,112] rfl hc36 ?_
    try dsimp only [w0,w1,w2,w3]
    refine xfs 114 112 [10,112] rfl hc36 ?_
    refine xrs 115 112 [114,112] rfl hc36 ?_
    refine zes 116 112 [113,115,112] rfl hc36 trivial ?_
    refine xfs 117 112 [12,112] rfl hc36 ?_
    try dsimp only [w0,w1,w2,w3]
    refine xfs 118 112 [117,112] rfl hc36 ?_
    refine xfs 119 112 [116,118,112] rfl hc36 ?_
    refine xf 120 [112,119] rfl (ok_pick_tt · (.tmp rfl) hc36 (.bool _)) ?_
    refine xf 121 [120] rfl (oM · rfl) ?_
    try dsimp only [w0,w1,w2,w3]
    refine xfs 122 121 [7,121] rfl rfl ?_
    refine xfs 123 121 [10,121] rfl rfl ?_
    refine xrs 124 121 [123,121] rfl rfl ?_
    refine xfs 125 121 [2,121] rfl rfl ?_
    try dsimp only [w0,w1,w2,w3]
    refine zes 126 121 [122,124,125,121] rfl rfl trivial ?_
    refine xfs 127 121 [8,121] rfl rfl ?_
    refine xfs 128 121 [10,121] rfl rfl ?_
    refine x_late (r_skip (dst := some 129) (t := 121) (ts := [128,121]) rfl (by kernel_rfl) rfl rfl rfl) rfl ⟨.inr (l_skip (dst := some 129) (t := 121) (ts := [128,121]) rfl (by kernel_rfl) rfl rfl rfl),.inl (by kernel_rfl),trivial⟩ ?_
    try dsimp only [w0,w1,w2,w3]
    refine xfs 130 121 [2,121] rfl rfl ?_
    refine zes 131 121 [127,129,130,121] rfl rfl ⟨.inl (by kernel_rfl),trivial⟩ ?_
    refine xfs 132 121 [131,121] rfl rfl ?_
    refine xfs 133 121 [126,132,121] rfl rfl ?_
    try dsimp only [w0,w1,w2,w3]
    refine xf 134 [121,133] rfl (ok_pick_tt · (.tmp rfl) rfl (.bool _)) ?_
    refine xf 135 [134] rfl (oM · rfl) ?_
    refine xfs 136 135 [12,135] rfl rfl ?_
    refine xfs 137 135 [8,135] rfl rfl ?_
    try dsimp only [w0,w1,w2,w3]
    refine xfs 138 135 [10,135] rfl rfl ?_
    refine xrs 139 135 [138,135] rfl rfl ?_
    refine zes 140 135 [137,139,135] rfl rfl ⟨.inl (by kernel_rfl),trivial⟩ ?_
    refine zes 141 135 [136,140,135] rfl rfl ⟨.inl (by kernel_rfl),trivial⟩ ?_
    try dsimp only [w0,w1,w2,w3]
    refine xfs 142 135 [141,135] rfl rfl ?_
    refine xf 143 [135,142] rfl (ok_pick_tt · (.tmp rfl) rfl (.bool _)) ?_
    refine xf 144 [143] rfl (oM · rfl) ?_
    refine xfs 145 144 [14,144] rfl rfl ?_
    try dsimp only [w0,w1,w2,w3]
    refine xfs 146 144 [8,144] rfl rfl ?_
    refine xfs 147 144 [2,144] rfl rfl ?_
    refine zes 148 144 [146,147,144] rfl rfl ⟨.inl (by kernel_rfl),trivial⟩ ?_
    refine zes 149 144 [145,148,144] rfl rfl ⟨.inl (by kernel_rfl),trivial⟩ ?_
    try dsimp only [w0,w1,w2,w3]
    refine xfs 150 144 [149,144] rfl rfl ?_
    refine xf 151 [144,150] rfl (ok_pick_tt · (.tmp rfl) rfl (.bool _)) ?_
    refine x_rest rfl ?_
    refine rE ?_
    try dsimp only [w0,w1,w2,w3]
    try dsimp only [w0,w1,w2,w3]
    exact J5_snd hD hH hrec0 h
   ·refine xfg 113 112 [7,112] rfl (bfalse hc36) (oM · rfl) ?_
    try dsimp only [w0,w1,w2,w3]
    obtain ⟨p37,hp37,h⟩ := bindo h
    refine xfg 114 112 [10,112] rfl (bfalse hc36) (oF · fi32_1 (by decide) rfl hp37) ?_
    obtain ⟨p38,hp38,h⟩ := bindo h
    refine xrg 115 112 [114,112] rfl (bfalse hc36) (oL · sc3 rfl rfl (ldI_out hp38)) ?_
    obtain ⟨p39,hp39,h⟩ := bindo h
    refine x_goE (e_call_g (dst := some 116) (t := 112) (ts := [113,115,112]) rfl (by kernel_rfl) rfl rfl (bfalse hc36) (.func _) (.cons (.tmp rfl) (.cons (.tmp rfl) Evs.nil)) (HInv.static wish_Lists_Count.at_ wish_Lists_Count.body (wish_Lists_Count.snd  hp39))) rfl trivial ?_
    refine xfg 117 112 [12,112] rfl (bfalse hc36) (oM · rfl) ?_
    try dsimp only [w0,w1,w2,w3]
    refine xfg 118 112 [117,112] rfl (bfalse hc36) (ok_len_sl (q := Sl.a p31.1.1) (n := Sl.len p31.1.1) (z := Sl.cap p31.1.1) · rfl tu38 (.tmp rfl)) ?_
    refine xfg 119 112 [116,118,112] rfl (bfalse hc36) (oB · rfl rfl rfl) ?_
    refine xf 120 [112,119] rfl (ok_pick_ff · (.tmp rfl) (bfalse hc36) (.tmp rfl)) ?_
    refine xf 121 [120] rfl (oM · rfl) ?_
    try dsimp only [w0,w1,w2,w3]
    rcases ifc h with ⟨hc40,h⟩ | ⟨hc40,h⟩
    ·refine xfs 122 121 [7,121] rfl hc40 ?_
     refine xfs 123 121 [10,121] rfl hc40 ?_
     refine xrs 124 121 [123,121] rfl hc40 ?_
     refine xfs 125 121 [2,121] rfl hc40 ?_
     try dsimp only [w0,w1,w2,w3]
     refine zes 126 121 [122,124,125,121] rfl hc40 trivial ?_
     refine xfs 127 121 [8,121] rfl hc40 ?_
     refine xfs 128 121 [10,121] rfl hc40 ?_
     refine x_late (r_skip (dst := some 129) (t := 121) (ts := [128,121]) rfl (by kernel_rfl) rfl rfl hc40) rfl ⟨.inr (l_skip (dst := some 129) (t := 121) (ts := [128,121]) rfl (by kernel_rfl) rfl rfl hc40),.inl (by kernel_rfl),trivial⟩ ?_
     try dsimp only [w0,w1,w2,w3]
     refine xfs 130 121 [2,121] rfl hc40 ?_
     refine zes 131 121 [127,129,130,121] rfl hc40 ⟨.inl (by kernel_rfl),trivial⟩ ?_
     refine xfs 132 121 [131,121] rfl hc40 ?_
     refine xfs 133 121 [126,132,121] rfl hc40 ?_
     try dsimp only [w0,w1,w2,w3]
     refine xf 134 [121,133] rfl (ok_pick_tt · (.tmp rfl) hc40 (.bool _)) ?_
     refine xf 135 [134] rfl (oM · rfl) ?_
     refine xfs 136 135 [12,135] rfl rfl ?_
     refine xfs 137 135 [8,135] rfl rfl ?_
     try dsimp only [w0,w1,w2,w3]
     refine xfs 138 135 [10,135] rfl rfl ?_
     refine xrs 139 135 [138,135] rfl rfl ?_
     refine zes 140 135 [137,139,135] rfl rfl ⟨.inl (by kernel_rfl),trivial⟩ ?_
     refine zes 141 135 [136,140,135] rfl rfl ⟨.inl (by kernel_rfl),trivial⟩ ?_
     try dsimp only [w0,w1,w2,w3]
     refine xfs 142 135 [141,135] rfl rfl ?_
     refine xf 143 [135,142] rfl (ok_pick_tt · (.tmp rfl) rfl (.bool _)) ?_
     refine xf 144 [143] rfl (oM · rfl) ?_
     refine xfs 145 144 [14,144] rfl rfl ?_
     try dsimp only [w0,w1,w2,w3]
     refine xfs 146 144 [8,144] rfl rfl ?_
     refine xfs 147 144 [2,144] rfl rfl ?_
     refine zes 148 144 [146,147,144] rfl rfl ⟨.inl (by kernel_rfl),trivial⟩ ?_
     refine zes 149 144 [145,148,144] rfl rfl ⟨.inl (by kernel_rfl),trivial⟩ ?_
     try dsimp only [w0,w1,w2,w3]
     refine xfs 150 144 [149,144] rfl rfl ?_
     refine xf 151 [144,150] rfl (ok_pick_tt · (.tmp rfl) rfl (.bool _)) ?_
     refine x_rest rfl ?_
     refine rE ?_
     try dsimp only [w0,w1,w2,w3]
     try dsimp only [w0,w1,w2,w3]
     exact J5_snd hD hH hrec0 h
    ·refine xfg 122 121 [7,121] rfl (bfalse hc40) (oM · rfl) ?_
     obtain ⟨p41,hp41,h⟩ := bindo h
     refine xfg 123 121 [10,121] rfl (bfalse hc40) (oF · fi32_1 (by decide) rfl hp41) ?_
     obtain ⟨p42,hp42,h⟩ := bindo h
     refine xrg 124 121 [123,121] rfl (bfalse hc40) (oL · sc3 rfl rfl (ldI_out hp42)) ?_
     refine xfg 125 121 [2,121] rfl (bfalse hc40) (oM · rfl) ?_
     try dsimp only [w0,w1,w2,w3]
     obtain ⟨p43,hp43,h⟩ := bindo h
     refine x_goE (e_call_g (dst := some 126) (t := 121) (ts := [122,124,125,121]) rfl (by kernel_rfl) rfl rfl (bfalse hc40) (.func _) (.cons (.tmp rfl) (.cons (.tmp rfl) (.cons (.tmp rfl) Evs.nil))) (HInv.static wish_Lists_Has.at_ wish_Lists_Has.body (wish_Lists_Has.snd  hp43))) rfl trivial ?_
     refine xfg 127 121 [8,121] rfl (bfalse hc40) (oM · rfl) ?_
     obtain ⟨p44,hp44,h⟩ := bindo h
     refine xfg 128 121 [10,121] rfl (bfalse hc40) (oF · fi32_1 (by decide) rfl hp44) ?_
     obtain ⟨p45,hp45,h⟩ := bindo h
     obtain ⟨p46,hp46,h⟩ := bindo h
     obtain ⟨hg47,h⟩ := gd h
     refine x_late (r_op_g (dst := some 129) (t := 121) (ts := [128,121]) rfl (by intro _ _ h; cases h) (by kernel_rfl) rfl rfl (bfalse hc40) (fun _ ho => ok_load_s ho sc3 (.tmp rfl) rfl (ldI_out hp45))) rfl ⟨.inr (l_op_g (dst := some 129) (t := 121) (ts := [128,121]) rfl (by intro _ _ h; cases h) (by kernel_rfl) rfl rfl (bfalse hc40) (fun _ ho => ok_load_s ho sc3 (.tmp rfl) rfl (ldI_out (hp46.trans (congrArg some hg47))))),.inl (by kernel_rfl),trivial⟩ ?_
     try dsimp only [w0,w1,w2,w3]
     refine xfg 130 121 [2,121] rfl (bfalse hc40) (oM · rfl) ?_
     obtain ⟨p48,hp48,h⟩ := bindo h
     refine x_goE (e_call_g (dst := some 131) (t := 121) (ts := [127,129,130,121]) rfl (by kernel_rfl) rfl rfl (bfalse hc40) (.func _) (.cons (.tmp rfl) (.cons (.tmp rfl) (.cons (.tmp rfl) Evs.nil))) (HInv.static rollcallref21_Lists_At.at_ rollcallref21_Lists_At.body (rollcallref21_Lists_At.snd  hp48))) rfl ⟨.inl (by kernel_rfl),trivial⟩ ?_
     refine xfg 132 121 [131,121] rfl (bfalse hc40) (oC · rfl rfl) ?_
     refine xfg 133 121 [126,132,121] rfl (bfalse hc40) (ok_beq · tu4 (.inr ⟨rfl,rfl⟩) (.tmp rfl) (.tmp rfl)) ?_
     try dsimp only [w0,w1,w2,w3]
     refine xf 134 [121,133] rfl (ok_pick_ff · (.tmp rfl) (bfalse hc40) (.tmp rfl)) ?_
     refine xf 135 [134] rfl (oM · rfl) ?_
     rcases ifc h with ⟨hc49,h⟩ | ⟨hc49,h⟩
     ·refine xfs 136 135 [12,135] rfl hc49 ?_
      refine xfs 137 135 [8,135] rfl hc49 ?_
      try dsimp only [w0,w1,w2,w3]
      refine xfs 138 135 [10,135] rfl hc49 ?_
      refine xrs 139 135 [138,135] rfl hc49 ?_
      refine zes 140 135 [137,139,135] rfl hc49 ⟨.inl (by kernel_rfl),trivial⟩ ?_
      refine zes 141 135 [136,140,135] rfl hc49 ⟨.inl (by kernel_rfl),trivial⟩ ?_
      try dsimp only [w0,w1,w2,w3]
      refine xfs 142 135 [141,135] rfl hc49 ?_
      refine xf 143 [135,142] rfl (ok_pick_tt · (.tmp rfl) hc49 (.bool _)) ?_
      refine xf 144 [143] rfl (oM · rfl) ?_
      refine xfs 145 144 [14,144] rfl rfl ?_
      try dsimp only [w0,w1,w2,w3]
      refine xfs 146 144 [8,144] rfl rfl ?_
      refine xfs 147 144 [2,144] rfl rfl ?_
      refine zes 148 144 [146,147,144] rfl rfl ⟨.inl (by kernel_rfl),trivial⟩ ?_
      refine zes 149 144 [145,148,144] rfl rfl ⟨.inl (by kernel_rfl),trivial⟩ ?_
      try dsimp only [w0,w1,w2,w3]
      refine xfs 150 144 [149,144] rfl rfl ?_
      refine xf 151 [144,150] rfl (ok_pick_tt · (.tmp rfl) rfl (.bool _)) ?_
      refine x_rest rfl ?_
      refine rE ?_
      try dsimp only [w0,w1,w2,w3]
      try dsimp only [w0,w1,w2,w3]
      exact J5_snd hD hH hrec0 h
     ·refine xfg 136 135 [12,135] rfl (bfalse hc49) (oM · rfl) ?_
      refine xfg 137 135 [8,135] rfl (bfalse hc49) (oM · rfl) ?_
      try dsimp only [w0,w1,w2,w3]
      obtain ⟨p50,hp50,h⟩ := bindo h
      refine xfg 138 135 [10,135] rfl (bfalse hc49) (oF · fi32_1 (by decide) rfl hp50) ?_
      obtain ⟨p51,hp51,h⟩ := bindo h
      refine xrg 139 135 [138,135] rfl (bfalse hc49) (oL · sc3 rfl rfl (ldI_out hp51)) ?_
      obtain ⟨p52,hp52,h⟩ := bindo h
      refine x_goE (e_call_g (dst := some 140) (t := 135) (ts := [137,139,135]) rfl (by kernel_rfl) rfl rfl (bfalse hc49) (.func _) (.cons (.tmp rfl) (.cons (.tmp rfl) Evs.nil)) (HInv.static rollcallref21_Lists_Of.at_ rollcallref21_Lists_Of.body (rollcallref21_Lists_Of.snd  hp52))) rfl ⟨.inl (by kernel_rfl),trivial⟩ ?_
      obtain ⟨p53,hp53,h⟩ := bindo h
      refine x_goE (e_call_g (dst := some 141) (t := 135) (ts := [136,140,135]) rfl (by kernel_rfl) rfl rfl (bfalse hc49) (.func _) (.cons (.tmp rfl) (.cons (.tmp rfl) Evs.nil)) (HInv.static rollcallref01_Texts.at_ rollcallref01_Texts.body (rollcallref01_Texts.snd  hp53))) rfl ⟨.inl (by kernel_rfl),trivial⟩ ?_
      try dsimp only [w0,w1,w2,w3]
      refine xfg 142 135 [141,135] rfl (bfalse hc49) (ok_not · (.tmp rfl)) ?_
      refine xf 143 [135,142] rfl (ok_pick_ff · (.tmp rfl) (bfalse hc49) (.tmp rfl)) ?_
      refine xf 144 [143] rfl (oM · rfl) ?_
      rcases ifc h with ⟨hc54,h⟩ | ⟨hc54,h⟩
      ·refine xfs 145 144 [14,144] rfl hc54 ?_
       try dsimp only [w0,w1,w2,w3]
       refine xfs 146 144 [8,144] rfl hc54 ?_
       refine xfs 147 144 [2,144] rfl hc54 ?_
       refine zes 148 144 [146,147,144] rfl hc54 ⟨.inl (by kernel_rfl),trivial⟩ ?_
       refine zes 149 144 [145,148,144] rfl hc54 ⟨.inl (by kernel_rfl),trivial⟩ ?_
       try dsimp only [w0,w1,w2,w3]
       refine xfs 150 144 [149,144] rfl hc54 ?_
       refine xf 151 [144,150] rfl (ok_pick_tt · (.tmp rfl) hc54 (.bool _)) ?_
       refine x_rest rfl ?_
       refine rE ?_
       try dsimp only [w0,w1,w2,w3]
       try dsimp only [w0,w1,w2,w3]
       exact J5_snd hD hH hrec0 h
      ·refine xfg 145 144 [14,144] rfl (bfalse hc54) (oM · rfl) ?_
       try dsimp only [w0,w1,w2,w3]
       refine xfg 146 144 [8,144] rfl (bfalse hc54) (oM · rfl) ?_
       refine xfg 147 144 [2,144] rfl (bfalse hc54) (oM · rfl) ?_
       obtain ⟨p55,hp55,h⟩ := bindo h
       refine x_goE (e_call_g (dst := some 148) (t := 144) (ts := [146,147,144]) rfl (by kernel_rfl) rfl rfl (bfalse hc54) (.func _) (.cons (.tmp rfl) (.cons (.tmp rfl) Evs.nil)) (HInv.static rollcallref21_Lists_By.at_ rollcallref21_Lists_By.body (rollcallref21_Lists_By.snd  hp55))) rfl ⟨.inl (by kernel_rfl),trivial⟩ ?_
       obtain ⟨p56,hp56,h⟩ := bindo h
       refine x_goE (e_call_g (dst := some 149) (t := 144) (ts := [145,148,144]) rfl (by kernel_rfl) rfl rfl (bfalse hc54) (.func _) (.cons (.tmp rfl) (.cons (.tmp rfl) Evs.nil)) (HInv.static rollcallref10_Same.at_ rollcallref10_Same.body (rollcallref10_Same.snd  hp56))) rfl ⟨.inl (by kernel_rfl),trivial⟩ ?_
       try dsimp only [w0,w1,w2,w3]
       refine xfg 150 144 [149,144] rfl (bfalse hc54) (ok_not · (.tmp rfl)) ?_
       refine xf 151 [144,150] rfl (ok_pick_ff · (.tmp rfl) (bfalse hc54) (.tmp rfl)) ?_
       refine x_rest rfl ?_
       refine rE ?_
       try dsimp only [w0,w1,w2,w3]
       try dsimp only [w0,w1,w2,w3]
       exact J5_snd hD hH hrec0 h
def L3 (D : Dp) (H : Hd) (k : Nat) : Nat → Sl → (List UInt8) → (Option HA) → (Option HA) → Int → HS → Option ((Bool) × HS)
 | 0,_,_,_,_,_,_ => none
 | n + 1,y1,y2,y7,y8,y9,S =>
  (if y9 < (Sl.len y1 : Int) then
  (Option.bind (HS.idx S y1 y9 3) fun p11 =>
  (Option.bind (HS.ldI S .i64 (HA.fld p11 0)) fun p12 =>
  (Option.bind (HS.ldI S .i64 (HA.fld p11 1)) fun p13 =>
  (Option.bind (HS.ldS S (HA.fld p11 2)) fun p14 =>
  (letv (HS.new S (.cells 3 [[(.int .i64 0),(.int .i64 0),(.str [])]] true)) fun p15 =>
  (Option.bind (HS.sets p15 (HA.cell0 S.next) [(.int .i64 p12),(.int .i64 p13),(.str p14)]) fun p16 =>
  (Option.bind (HS.ldI p16 .i64 (HA.fld (HA.cell0 S.next) 0)) fun p17 =>
  (if p17 = 1 then
  (Option.bind (HS.ldI p16 .i64 (HA.fld (HA.cell0 S.next) 1)) fun p19 =>
  (Option.bind (HS.ldS p16 (HA.fld (HA.cell0 S.next) 2)) fun p20 =>
  (Option.bind (wish_Lists_Remove.f k y7 p19 p20 p16) fun p21 =>
  (Option.bind (HS.ldI p21.2 .i64 (HA.fld (HA.cell0 S.next) 1)) fun p22 =>
  (Option.bind (HS.ldI p16 .i64 (HA.fld (HA.cell0 S.next) 1)) fun p23 =>
  (if p23 = p22 then
  (Option.bind (HS.ldS p21.2 (HA.fld (HA.cell0 S.next) 2)) fun p25 =>
  (Option.bind (HS.ldS p16 (HA.fld (HA.cell0 S.next) 2)) fun p26 =>
  (if p26 = p25 then
  (Option.bind (rollcallref21_Lists_Remove.f k y8 p22 p25 p21.2) fun p28 =>
  J4 D H k (L3 D H k n) y1 y2 y7 y8 y9 (some (HA.cell0 S.next)) (p21.1 == p28.1) p28.2) else none))) else none)))))) else
  (if p17 = 2 then
  (Option.bind (HS.ldI p16 .i64 (HA.fld (HA.cell0 S.next) 1)) fun p58 =>
  (Option.bind (wish_Lists_Clear.f D H k y7 p58 p16) fun p59 =>
  (Option.bind (HS.ldI p59.2 .i64 (HA.fld (HA.cell0 S.next) 1)) fun p60 =>
  (Option.bind (HS.ldI p16 .i64 (HA.fld (HA.cell0 S.next) 1)) fun p61 =>
  (if p61 = p60 then
  (Option.bind (rollcallref21_Lists_Clear.f k y8 p60 p59.2) fun p63 =>
  J4 D H k (L3 D H k n) y1 y2 y7 y8 y9 (some (HA.cell0 S.next)) (decide (p59.1 = p63.1)) p63.2) else none))))) else
  (Option.bind (HS.ldI p16 .i64 (HA.fld (HA.cell0 S.next) 1)) fun p64 =>
  (Option.bind (HS.ldS p16 (HA.fld (HA.cell0 S.next) 2)) fun p65 =>
  (Option.bind (wish_Lists_Add.f k y7 p64 p65 p16) fun p66 =>
  (Option.bind (HS.ldI p66.2 .i64 (HA.fld (HA.cell0 S.next) 1)) fun p67 =>
  (Option.bind (HS.ldI p16 .i64 (HA.fld (HA.cell0 S.next) 1)) fun p68 =>
  (if p68 = p67 then
  (Option.bind (HS.ldS p66.2 (HA.fld (HA.cell0 S.next) 2)) fun p70 =>
  (Option.bind (HS.ldS p16 (HA.fld (HA.cell0 S.next) 2)) fun p71 =>
  (if p71 = p70 then
  (Option.bind (rollcallref21_Lists_Add.f k y8 p67 p70 p66.2) fun p73 =>
  J4 D H k (L3 D H k n) y1 y2 y7 y8 y9 (some (HA.cell0 S.next)) (decide (p66.1 = p73.1)) p73.2) else none))) else none))))))))))))))) else
  some (true,S))
theorem L3_snd {D : Dp} {H : Hd} {k : Nat} (hD : DSound Tryz.prog base W0 D) (hH : HSound Tryz.prog base W0 β0 H)  : ∀ {n : Nat} ⦃y1 : Sl⦄ ⦃y2 : (List UInt8)⦄ ⦃y7 : (Option HA)⦄ ⦃y8 : (Option HA)⦄ ⦃y9 : Int⦄ ⦃S : HS⦄ ⦃p : (Bool) × HS⦄ ⦃Ga Gd Ge Gf Gg Gk Gl Gm Gn Go Gp Gq Gr Gs Gt Gu Gv Gw Gx Gy Gz Ka Kb Kc Kd Ke Kf Kg Kh Ki Kj Kk Kl Km Kn Ko Kp Kq Kr Ks Kt Ku Kv Kw Kx Ky Kz Ma Mb Mc Md Me Mf Mg Mh Mi Mj Mk Ml Mm Mn Mo Mp Mq Mr Ms Mt Mu Mv Mw Mx My Mz Na Nb Nc Nd Ne Nf Ng Nh Ni Nj Nk Nl Nm Nn No Np Nq Nr Ns Nt Nu Nv Nw Nx Ny Nz Qa Qb Qc Qd Qe Qf Qg Qh Qi Qj Qk Ql Qm Qn Qo Qp Qq Qr Qs Qt Qu Qv Qw Qx Qy Qz Ua Ub Uc Ud Ue Uf Ug Uh Ui Uj Uk Ul Um Un Uo Up Uq Ur Us Ut Uu Uv : HV⦄,L3 D H k n y1 y2 y7 y8 y9 S = some p → HRun Tryz.prog base W0 β0 3 none [.inLoop c25,.inBlock 0,.code c62] ⟨[Ga,(Sl.hv y1),(.str y2),Gd,Ge,Gf,Gg,(.ptr y7),(.ptr y8),(.int .i64 y9),Gk,Gl,Gm,Gn,Go,Gp,Gq,Gr,Gs,Gt,Gu,Gv,Gw,Gx,Gy,Gz,Ka,Kb,Kc,Kd,Ke,Kf,Kg,Kh,Ki,Kj,Kk,Kl,Km,Kn,Ko,Kp,Kq,Kr,Ks,Kt,Ku,Kv,Kw,Kx,Ky,Kz,Ma,Mb,Mc,Md,Me,Mf,Mg,Mh,Mi,Mj,Mk,Ml,Mm,Mn,Mo,Mp,Mq,Mr,Ms,Mt,Mu,Mv,Mw,Mx,My,Mz,Na,Nb,Nc,Nd,Ne,Nf,Ng,Nh,Ni,Nj,Nk,Nl,Nm,Nn,No,Np,Nq,Nr,Ns,Nt,Nu,Nv,Nw,Nx,Ny,Nz,Qa,Qb,Qc,Qd,Qe,Qf,Qg,Qh,Qi,Qj,Qk,Ql,Qm,Qn,Qo,Qp,Qq,Qr,Qs,Qt,Qu,Qv,Qw,Qx,Qy,Qz,Ua,Ub,Uc,Ud,Ue,Uf,Ug,Uh,Ui,Uj,Uk,Ul,Um,Un,Uo,Up,Uq,Ur,Us,Ut,Uu,Uv],[]⟩ S (fun v S1 => v = (.bool p.1) ∧ S1 = p.2) := by
 intro n
 induction n with
 | zero => intro _ _ _ _ _ _ _ _ _ _ _ _ _ _ _ _ _ _ _ _ _ _ _ _ _ _ _ _ _ _ _ _ _ _ _ _ _ _ _ _ _ _ _ _ _ _ _ _ _ _ _ _ _ _ _ _ _ _ _ _ _ _ _ _ _ _ _ _ _ _ _ _ _ _ _ _ _ _ _ _ _ _ _ _ _ _ _ _ _ _ _ _ _ _ _ _ _ _ _ _ _ _ _ _ _ _ _ _ _ _ _ _ _ _ _ _ _ _ _ _ _ _ _ _ _ _ _ _ _ _ _ _ _ _ _ _ _ _ _ _ _ _ _ _ _ _ _ _ _ _ _ _ _ _ h; cases h
 | succ n ih =>
  intro y1 y2 y7 y8 y9 S p Ga Gd Ge Gf Gg Gk Gl Gm Gn Go Gp Gq Gr Gs Gt Gu Gv Gw Gx Gy Gz Ka Kb Kc Kd Ke Kf Kg Kh Ki Kj Kk Kl Km Kn Ko Kp Kq Kr Ks Kt Ku Kv Kw Kx Ky Kz Ma Mb Mc Md Me Mf Mg Mh Mi Mj Mk Ml Mm Mn Mo Mp Mq Mr Ms Mt Mu Mv Mw Mx My Mz Na Nb Nc Nd Ne Nf Ng Nh Ni Nj Nk Nl Nm Nn No Np Nq Nr Ns Nt Nu Nv Nw Nx Ny Nz Qa Qb Qc Qd Qe Qf Qg Qh Qi Qj Qk Ql Qm Qn Qo Qp Qq Qr Qs Qt Qu Qv Qw Qx Qy Qz Ua Ub Uc Ud Ue Uf Ug Uh Ui Uj Uk Ul Um Un Uo Up Uq Ur Us Ut Uu Uv h
  simp only [L3] at h
  refine hr_inLoop (qQ rfl (qQ rfl (qR rfl rfl (qS 38 rfl (oM · rfl) (qS 39 rfl (oM · rfl) (qS 40 rfl (ok_len_sl (q := Sl.a y1) (n := Sl.len y1) (z := Sl.cap y1) · rfl tu22 (.tmp rfl)) (qS 41 rfl (oB · rfl rfl rfl) (rE ?_))))))))
  try dsimp only [w0,w1,w2,w3]
  rcases ifc h with ⟨hc10,h⟩ | ⟨hc10,h⟩
  ·obtain ⟨p11,hp11,h⟩ := bindo h
   obtain ⟨p12,hp12,h⟩ := bindo h
   obtain ⟨p13,hp13,h⟩ := bindo h
   obtain ⟨p14,hp14,h⟩ := bindo h
   refine q_cond_t rfl (.tmp rfl) (decide_eq_true hc10) (q_skipc rfl (qQ rfl (q_block rfl (qQ rfl (qR rfl rfl (qS 44 rfl (oM · rfl) (qS 45 rfl (oM · rfl) (qS 46 rfl (oX (s := y1) · tu22 sz32 rfl rfl hp11) (qS 47 rfl (ok_load_a (vs := [(.int .i64 p12),(.int .i64 p13),(.str p14)]) · ia32 (.tmp rfl) rfl ⟨ldI_out hp12,ldI_out hp13,ldS_out hp14,trivial⟩ (by simp)) ?_)))))))))
   try dsimp only [w0,w1,w2,w3]
   obtain ⟨p15,hp15,h⟩ := leto h
   obtain ⟨p16,hp16,h⟩ := bindo h
   refine qS 10 rfl (ok_alloc_e · zi32 zr32 (by decide) rfl hp15) (qN rfl (ok_store_s (v := (.agg [(.int .i64 p12),(.int .i64 p13),(.str p14)])) · sz32 (.tmp rfl) rfl (.tmp rfl) rfl hp16) (rE ?_))
   try dsimp only [w0,w1,w2,w3]
   refine qQ rfl (qR rfl rfl (qS 11 rfl (ok_assign · (.bool _)) (rE ?_)))
   try dsimp only [w0,w1,w2,w3]
   obtain ⟨p17,hp17,h⟩ := bindo h
   refine qQ rfl (qQ rfl (qR rfl rfl (qS 48 rfl (oF · fi32_0 (by decide) rfl rfl) (qS 49 rfl (oL · sc3 rfl rfl (ldI_out hp17)) (rE ?_)))))
   try dsimp only [w0,w1,w2,w3]
   refine q_block rfl (qQ rfl (qR rfl rfl (qS 64 rfl (oC · rfl rfl) (qS 63 rfl (oA · rfl) (rE ?_)))))
   try dsimp only [w0,w1,w2,w3]
   rcases ifc h with ⟨hc18,h⟩ | ⟨hc18,h⟩
   ·refine q_cond_t rfl (.tmp rfl) (decide_eq_true hc18) ?_
    refine x_start (cls := [0,0,1,0,1,2,0,0,3,0,3,2,0,0]) (rk := [0,1,2,3,4,5,6,7,8,9,10,11,12,13]) rfl (by kernel_rfl) ?_
    refine xf 65 [7] rfl (oM · rfl) ?_
    refine xf 66 [10] rfl (oF · fi32_1 (by decide) rfl rfl) ?_
    obtain ⟨p19,hp19,h⟩ := bindo h
    refine xr 67 [66] rfl (oL · sc3 rfl rfl (ldI_out hp19)) ?_
    refine xf 68 [10] rfl (oF · fi32_2 (by decide) rfl rfl) ?_
    try dsimp only [w0,w1,w2,w3]
    obtain ⟨p20,hp20,h⟩ := bindo h
    refine xr 69 [68] rfl (oL · sc9 rfl rfl (ldS_out hp20)) ?_
    obtain ⟨p21,hp21,h⟩ := bindo h
    refine x_goE (e_call (dst := some 70) (ts := [65,67,69]) rfl (by kernel_rfl) (.func _) (.cons (.tmp rfl) (.cons (.tmp rfl) (.cons (.tmp rfl) Evs.nil))) (HInv.static wish_Lists_Remove.at_ wish_Lists_Remove.body (wish_Lists_Remove.snd  hp21))) rfl trivial ?_
    refine xf 71 [8] rfl (oM · rfl) ?_
    refine xf 72 [10] rfl (oF · fi32_1 (by decide) rfl rfl) ?_
    try dsimp only [w0,w1,w2,w3]
    obtain ⟨p22,hp22,h⟩ := bindo h
    obtain ⟨p23,hp23,h⟩ := bindo h
    obtain ⟨hg24,h⟩ := gd h
    refine x_late (r_op (dst := some 73) (ts := [72]) rfl (by intro _ _ h; cases h) (by kernel_rfl) (fun _ ho => ok_load_s ho sc3 (.tmp rfl) rfl (ldI_out hp22))) rfl ⟨.inr (l_op (dst := some 73) (ts := [72]) rfl (by intro _ _ h; cases h) (by kernel_rfl) (fun _ ho => ok_load_s ho sc3 (.tmp rfl) rfl (ldI_out (hp23.trans (congrArg some hg24))))),trivial⟩ ?_
    refine xf 74 [10] rfl (oF · fi32_2 (by decide) rfl rfl) ?_
    obtain ⟨p25,hp25,h⟩ := bindo h
    obtain ⟨p26,hp26,h⟩ := bindo h
    obtain ⟨hg27,h⟩ := gd h
    refine x_late (r_op (dst := some 75) (ts := [74]) rfl (by intro _ _ h; cases h) (by kernel_rfl) (fun _ ho => ok_load_s ho sc9 (.tmp rfl) rfl (ldS_out hp25))) rfl ⟨.inr (l_op (dst := some 75) (ts := [74]) rfl (by intro _ _ h; cases h) (by kernel_rfl) (fun _ ho => ok_load_s ho sc9 (.tmp rfl) rfl (ldS_out (hp26.trans (congrArg some hg27))))),trivial⟩ ?_
    obtain ⟨p28,hp28,h⟩ := bindo h
    refine x_goE (e_call (dst := some 76) (ts := [71,73,75]) rfl (by kernel_rfl) (.func _) (.cons (.tmp rfl) (.cons (.tmp rfl) (.cons (.tmp rfl) Evs.nil))) (HInv.static rollcallref21_Lists_Remove.at_ rollcallref21_Lists_Remove.body (rollcallref21_Lists_Remove.snd  hp28))) rfl ⟨.inl (by kernel_rfl),.inl (by kernel_rfl),trivial⟩ ?_
    try dsimp only [w0,w1,w2,w3]
    refine xf 77 [70,76] rfl (ok_beq · tu4 (.inl ⟨rfl,rfl⟩) (.tmp rfl) (.tmp rfl)) ?_
    refine xf 11 [77] rfl (oA · rfl) ?_
    refine x_rest rfl ?_
    refine rE ?_
    try dsimp only [w0,w1,w2,w3]
    refine hr_inBlock ?_
    try dsimp only [w0,w1,w2,w3]
    exact J4_snd hD hH ih h
   ·refine q_cond_f rfl (.tmp rfl) (decide_eq_false hc18) (qQ rfl (qR rfl rfl (qS 79 rfl (oC · rfl rfl) (qS 78 rfl (oA · rfl) (rE ?_)))))
    try dsimp only [w0,w1,w2,w3]
    rcases ifc h with ⟨hc57,h⟩ | ⟨hc57,h⟩
    ·refine q_cond_t rfl (.tmp rfl) (decide_eq_true hc57) ?_
     refine x_start (cls := [0,0,1,2,0,0,3,2,0,0]) (rk := [0,1,2,3,4,5,6,7,8,9]) rfl (by kernel_rfl) ?_
     refine xf 80 [7] rfl (oM · rfl) ?_
     refine xf 81 [10] rfl (oF · fi32_1 (by decide) rfl rfl) ?_
     obtain ⟨p58,hp58,h⟩ := bindo h
     refine xr 82 [81] rfl (oL · sc3 rfl rfl (ldI_out hp58)) ?_
     obtain ⟨p59,hp59,h⟩ := bindo h
     refine x_goE (e_call (dst := some 83) (ts := [80,82]) rfl (by kernel_rfl) (.func _) (.cons (.tmp rfl) (.cons (.tmp rfl) Evs.nil)) (HInv.static wish_Lists_Clear.at_ wish_Lists_Clear.body (wish_Lists_Clear.snd hD hH hp59))) rfl trivial ?_
     try dsimp only [w0,w1,w2,w3]
     refine xf 84 [8] rfl (oM · rfl) ?_
     refine xf 85 [10] rfl (oF · fi32_1 (by decide) rfl rfl) ?_
     obtain ⟨p60,hp60,h⟩ := bindo h
     obtain ⟨p61,hp61,h⟩ := bindo h
     obtain ⟨hg62,h⟩ := gd h
     refine x_late (r_op (dst := some 86) (ts := [85]) rfl (by intro _ _ h; cases h) (by kernel_rfl) (fun _ ho => ok_load_s ho sc3 (.tmp rfl) rfl (ldI_out hp60))) rfl ⟨.inr (l_op (dst := some 86) (ts := [85]) rfl (by intro _ _ h; cases h) (by kernel_rfl) (fun _ ho => ok_load_s ho sc3 (.tmp rfl) rfl (ldI_out (hp61.trans (congrArg some hg62))))),trivial⟩ ?_
     obtain ⟨p63,hp63,h⟩ := bindo h
     refine x_goE (e_call (dst := some 87) (ts := [84,86]) rfl (by kernel_rfl) (.func _) (.cons (.tmp rfl) (.cons (.tmp rfl) Evs.nil)) (HInv.static rollcallref21_Lists_Clear.at_ rollcallref21_Lists_Clear.body (rollcallref21_Lists_Clear.snd  hp63))) rfl ⟨.inl (by kernel_rfl),trivial⟩ ?_
     try dsimp only [w0,w1,w2,w3]
     refine xf 88 [83,87] rfl (oB · rfl rfl rfl) ?_
     refine xf 11 [88] rfl (oA · rfl) ?_
     refine x_rest rfl ?_
     refine rE ?_
     try dsimp only [w0,w1,w2,w3]
     refine hr_inBlock ?_
     try dsimp only [w0,w1,w2,w3]
     exact J4_snd hD hH ih h
    ·refine q_cond_f rfl (.tmp rfl) (decide_eq_false hc57) ?_
     refine x_start (cls := [0,0,1,0,1,2,0,0,3,0,3,2,0,0]) (rk := [0,1,2,3,4,5,6,7,8,9,10,11,12,13]) rfl (by kernel_rfl) ?_
     refine xf 50 [7] rfl (oM · rfl) ?_
     refine xf 51 [10] rfl (oF · fi32_1 (by decide) rfl rfl) ?_
     obtain ⟨p64,hp64,h⟩ := bindo h
     refine xr 52 [51] rfl (oL · sc3 rfl rfl (ldI_out hp64)) ?_
     refine xf 53 [10] rfl (oF · fi32_2 (by decide) rfl rfl) ?_
     try dsimp only [w0,w1,w2,w3]
     obtain ⟨p65,hp65,h⟩ := bindo h
     refine xr 54 [53] rfl (oL · sc9 rfl rfl (ldS_out hp65)) ?_
     obtain ⟨p66,hp66,h⟩ := bindo h
     refine x_goE (e_call (dst := some 55) (ts := [50,52,54]) rfl (by kernel_rfl) (.func _) (.cons (.tmp rfl) (.cons (.tmp rfl) (.cons (.tmp rfl) Evs.nil))) (HInv.static wish_Lists_Add.at_ wish_Lists_Add.body (wish_Lists_Add.snd  hp66))) rfl trivial ?_
     refine xf 56 [8] rfl (oM · rfl) ?_
     refine xf 57 [10] rfl (oF · fi32_1 (by decide) rfl rfl) ?_
     try dsimp only [w0,w1,w2,w3]
     obtain ⟨p67,hp67,h⟩ := bindo h
     obtain ⟨p68,hp68,h⟩ := bindo h
     obtain ⟨hg69,h⟩ := gd h
     refine x_late (r_op (dst := some 58) (ts := [57]) rfl (by intro _ _ h; cases h) (by kernel_rfl) (fun _ ho => ok_load_s ho sc3 (.tmp rfl) rfl (ldI_out hp67))) rfl ⟨.inr (l_op (dst := some 58) (ts := [57]) rfl (by intro _ _ h; cases h) (by kernel_rfl) (fun _ ho => ok_load_s ho sc3 (.tmp rfl) rfl (ldI_out (hp68.trans (congrArg some hg69))))),trivial⟩ ?_
     refine xf 59 [10] rfl (oF · fi32_2 (by decide) rfl rfl) ?_
     obtain ⟨p70,hp70,h⟩ := bindo h
     obtain ⟨p71,hp71,h⟩ := bindo h
     obtain ⟨hg72,h⟩ := gd h
     refine x_late (r_op (dst := some 60) (ts := [59]) rfl (by intro _ _ h; cases h) (by kernel_rfl) (fun _ ho => ok_load_s ho sc9 (.tmp rfl) rfl (ldS_out hp70))) rfl ⟨.inr (l_op (dst := some 60) (ts := [59]) rfl (by intro _ _ h; cases h) (by kernel_rfl) (fun _ ho => ok_load_s ho sc9 (.tmp rfl) rfl (ldS_out (hp71.trans (congrArg some hg72))))),trivial⟩ ?_
     obtain ⟨p73,hp73,h⟩ := bindo h
     refine x_goE (e_call (dst := some 61) (ts := [56,58,60]) rfl (by kernel_rfl) (.func _) (.cons (.tmp rfl) (.cons (.tmp rfl) (.cons (.tmp rfl) Evs.nil))) (HInv.static rollcallref21_Lists_Add.at_ rollcallref21_Lists_Add.body (rollcallref21_Lists_Add.snd  hp73))) rfl ⟨.inl (by kernel_rfl),.inl (by kernel_rfl),trivial⟩ ?_
     try dsimp only [w0,w1,w2,w3]
     refine xf 62 [55,61] rfl (oB · rfl rfl rfl) ?_
     refine xf 11 [62] rfl (oA · rfl) ?_
     refine x_rest rfl ?_
     refine rE ?_
     try dsimp only [w0,w1,w2,w3]
     refine hr_inBlock ?_
     try dsimp only [w0,w1,w2,w3]
     exact J4_snd hD hH ih h
  ·refine q_cond_f rfl (.tmp rfl) (decide_eq_false hc10) (q_exit rfl rfl (qQ rfl (qR rfl rfl (qS 6 rfl (ok_assign · (.bool _)) (rE ?_)))))
   try dsimp only [w0,w1,w2,w3]
   cases h
   exact q_ret rfl at_.at_ rfl (res1 rfl rfl) ⟨rfl,rfl⟩
def J2 (D : Dp) (H : Hd) (k : Nat) (y0 : Int) (y1 : Sl) (y2 : (List UInt8)) (y32 : Bool) (S : HS) : Option ((Bool) × HS) :=
 (if y32 = true then
 some (true,S) else
 (Option.bind (wish_New.f y0 S) fun p8 =>
 (letv (HS.new p8.2 (.cells 2 [[(.int .i64 y0),(Sl.hv Sl.nil)]] true)) fun p9 =>
 L3 D H k k y1 y2 p8.1 (some (HA.cell0 p8.2.next)) 0 p9)))
theorem J2_snd {D : Dp} {H : Hd} {k : Nat} (hD : DSound Tryz.prog base W0 D) (hH : HSound Tryz.prog base W0 β0 H)  {y0 : Int} {y1 : Sl} {y2 : (List UInt8)} {y32 : Bool} {S : HS} {p : (Bool) × HS} {Gd Ge Gf Gg Gh Gi Gj Gk Gl Gm Gn Go Gp Gq Gr Gs Gt Gu Gv Gw Gx Gy Gz Ka Kb Kc Kd Ke Kf Kh Ki Kj Kk Kl Km Kn Ko Kp Kq Kr Ks Kt Ku Kv Kw Kx Ky Kz Ma Mb Mc Md Me Mf Mg Mh Mi Mj Mk Ml Mm Mn Mo Mp Mq Mr Ms Mt Mu Mv Mw Mx My Mz Na Nb Nc Nd Ne Nf Ng Nh Ni Nj Nk Nl Nm Nn No Np Nq Nr Ns Nt Nu Nv Nw Nx Ny Nz Qa Qb Qc Qd Qe Qf Qg Qh Qi Qj Qk Ql Qm Qn Qo Qp Qq Qr Qs Qt Qu Qv Qw Qx Qy Qz Ua Ub Uc Ud Ue Uf Ug Uh Ui Uj Uk Ul Um Un Uo Up Uq Ur Us Ut Uu Uv : HV} (h : J2 D H k y0 y1 y2 y32 S = some p) : HRun Tryz.prog base W0 β0 3 none [.code c13,.code c18] ⟨[(.int .i64 y0),(Sl.hv y1),(.str y2),Gd,Ge,Gf,Gg,Gh,Gi,Gj,Gk,Gl,Gm,Gn,Go,Gp,Gq,Gr,Gs,Gt,Gu,Gv,Gw,Gx,Gy,Gz,Ka,Kb,Kc,Kd,Ke,Kf,(.bool y32),Kh,Ki,Kj,Kk,Kl,Km,Kn,Ko,Kp,Kq,Kr,Ks,Kt,Ku,Kv,Kw,Kx,Ky,Kz,Ma,Mb,Mc,Md,Me,Mf,Mg,Mh,Mi,Mj,Mk,Ml,Mm,Mn,Mo,Mp,Mq,Mr,Ms,Mt,Mu,Mv,Mw,Mx,My,Mz,Na,Nb,Nc,Nd,Ne,Nf,Ng,Nh,Ni,Nj,Nk,Nl,Nm,Nn,No,Np,Nq,Nr,Ns,Nt,Nu,Nv,Nw,Nx,Ny,Nz,Qa,Qb,Qc,Qd,Qe,Qf,Qg,Qh,Qi,Qj,Qk,Ql,Qm,Qn,Qo,Qp,Qq,Qr,Qs,Qt,Qu,Qv,Qw,Qx,Qy,Qz,Ua,Ub,Uc,Ud,Ue,Uf,Ug,Uh,Ui,Uj,Uk,Ul,Um,Un,Uo,Up,Uq,Ur,Us,Ut,Uu,Uv],[]⟩ S (fun v S1 => v = (.bool p.1) ∧ S1 = p.2) := by
 unfold J2 at h
 rcases ifc h with ⟨hc7,h⟩ | ⟨hc7,h⟩
 ·refine q_cond_t rfl (.tmp rfl) hc7 (qQ rfl (qR rfl rfl (qS 6 rfl (ok_assign · (.bool _)) (rE ?_))))
  try dsimp only [w0,w1,w2,w3]
  cases h
  exact q_ret rfl at_.at_ rfl (res1 rfl rfl) ⟨rfl,rfl⟩
 ·obtain ⟨p8,hp8,h⟩ := bindo h
  refine q_cond_f rfl (.tmp rfl) (bfalse hc7) (q_skipc rfl (qQ rfl (qR rfl rfl (qS 33 rfl (oM · rfl) (q_call (dst := some 34) rfl (.func _) (.cons (.tmp rfl) Evs.nil) (HInv.static wish_New.at_ wish_New.body (wish_New.snd  hp8)) ?_)))))
  rintro _ _ ⟨rfl,rfl⟩
  refine qS 35 rfl (oM · rfl) (qS 36 rfl (ok_build (is := [0]) (xs := [(.tmp 35)]) (r := [(.int .i64 y0),(Sl.hv Sl.nil)]) st30 · rfl rfl (.cons (.tmp rfl) Evs.nil) rfl) ?_)
  try dsimp only [w0,w1,w2,w3]
  obtain ⟨p9,hp9,h⟩ := leto h
  refine qS 37 rfl (ok_box_e · (.tmp rfl) (Nat.zero_lt_succ _) rfl hp9) (qS 7 rfl (oA · rfl) (qS 8 rfl (oA · rfl) (rE ?_)))
  try dsimp only [w0,w1,w2,w3]
  refine qQ rfl (qQ rfl (qR rfl rfl (qS 9 rfl (ok_assign · (.int _ _)) (rE ?_))))
  try dsimp only [w0,w1,w2,w3]
  refine q_block rfl (q_loop rfl ?_)
  try dsimp only [w0,w1,w2,w3]
  exact L3_snd hD hH h
def J1 (D : Dp) (H : Hd) (k : Nat) (y0 : Int) (y1 : Sl) (y2 : (List UInt8)) (y28 : Bool) (S : HS) : Option ((Bool) × HS) :=
 (if y28 = true then
 J2 D H k y0 y1 y2 true S else
 J2 D H k y0 y1 y2 (decide (y0 > 1000)) S)
theorem J1_snd {D : Dp} {H : Hd} {k : Nat} (hD : DSound Tryz.prog base W0 D) (hH : HSound Tryz.prog base W0 β0 H)  {y0 : Int} {y1 : Sl} {y2 : (List UInt8)} {y28 : Bool} {S : HS} {p : (Bool) × HS} {Gd Ge Gf Gg Gh Gi Gj Gk Gl Gm Gn Go Gp Gq Gr Gs Gt Gu Gv Gw Gx Gy Gz Ka Kb Kd Ke Kf Kg Kh Ki Kj Kk Kl Km Kn Ko Kp Kq Kr Ks Kt Ku Kv Kw Kx Ky Kz Ma Mb Mc Md Me Mf Mg Mh Mi Mj Mk Ml Mm Mn Mo Mp Mq Mr Ms Mt Mu Mv Mw Mx My Mz Na Nb Nc Nd Ne Nf Ng Nh Ni Nj Nk Nl Nm Nn No Np Nq Nr Ns Nt Nu Nv Nw Nx Ny Nz Qa Qb Qc Qd Qe Qf Qg Qh Qi Qj Qk Ql Qm Qn Qo Qp Qq Qr Qs Qt Qu Qv Qw Qx Qy Qz Ua Ub Uc Ud Ue Uf Ug Uh Ui Uj Uk Ul Um Un Uo Up Uq Ur Us Ut Uu Uv : HV} (h : J1 D H k y0 y1 y2 y28 S = some p) : HRun Tryz.prog base W0 β0 3 none [.inRegion r12 [11,12,13,14],.code c13,.code c18] ⟨[(.int .i64 y0),(Sl.hv y1),(.str y2),Gd,Ge,Gf,Gg,Gh,Gi,Gj,Gk,Gl,Gm,Gn,Go,Gp,Gq,Gr,Gs,Gt,Gu,Gv,Gw,Gx,Gy,Gz,Ka,Kb,(.bool y28),Kd,Ke,Kf,Kg,Kh,Ki,Kj,Kk,Kl,Km,Kn,Ko,Kp,Kq,Kr,Ks,Kt,Ku,Kv,Kw,Kx,Ky,Kz,Ma,Mb,Mc,Md,Me,Mf,Mg,Mh,Mi,Mj,Mk,Ml,Mm,Mn,Mo,Mp,Mq,Mr,Ms,Mt,Mu,Mv,Mw,Mx,My,Mz,Na,Nb,Nc,Nd,Ne,Nf,Ng,Nh,Ni,Nj,Nk,Nl,Nm,Nn,No,Np,Nq,Nr,Ns,Nt,Nu,Nv,Nw,Nx,Ny,Nz,Qa,Qb,Qc,Qd,Qe,Qf,Qg,Qh,Qi,Qj,Qk,Ql,Qm,Qn,Qo,Qp,Qq,Qr,Qs,Qt,Qu,Qv,Qw,Qx,Qy,Qz,Ua,Ub,Uc,Ud,Ue,Uf,Ug,Uh,Ui,Uj,Uk,Ul,Um,Un,Uo,Up,Uq,Ur,Us,Ut,Uu,Uv],[]⟩ S (fun v S1 => v = (.bool p.1) ∧ S1 = p.2) := by
 unfold J1 at h
 refine qS 29 rfl (oM · rfl) ?_
 try dsimp only [w0,w1,w2,w3]
 rcases ifc h with ⟨hc6,h⟩ | ⟨hc6,h⟩
 ·refine q_skip (dst := some 30) (t := 29) rfl rfl rfl hc6 (q_skip (dst := some 31) (t := 29) rfl rfl rfl hc6 (qS 32 rfl (ok_pick_tt · (.tmp rfl) hc6 (.bool _)) (rE ?_)))
  try dsimp only [w0,w1,w2,w3]
  try dsimp only [w0,w1,w2,w3]
  exact J2_snd hD hH h
 ·refine qG 29 30 rfl (bfalse hc6) (oM · rfl) (qG 29 31 rfl (bfalse hc6) (oC · rfl rfl) (qS 32 rfl (ok_pick_ff · (.tmp rfl) (bfalse hc6) (.tmp rfl)) (rE ?_)))
  try dsimp only [w0,w1,w2,w3]
  try dsimp only [w0,w1,w2,w3]
  exact J2_snd hD hH h
def J0 (D : Dp) (H : Hd) (k : Nat) (y0 : Int) (y1 : Sl) (y2 : (List UInt8)) (y24 : Bool) (S : HS) : Option ((Bool) × HS) :=
 (if y24 = true then
 J1 D H k y0 y1 y2 true S else
 J1 D H k y0 y1 y2 (decide (y0 < 0)) S)
theorem J0_snd {D : Dp} {H : Hd} {k : Nat} (hD : DSound Tryz.prog base W0 D) (hH : HSound Tryz.prog base W0 β0 H)  {y0 : Int} {y1 : Sl} {y2 : (List UInt8)} {y24 : Bool} {S : HS} {p : (Bool) × HS} {Gd Ge Gf Gg Gh Gi Gj Gk Gl Gm Gn Go Gp Gq Gr Gs Gt Gu Gv Gw Gx Gz Ka Kb Kc Kd Ke Kf Kg Kh Ki Kj Kk Kl Km Kn Ko Kp Kq Kr Ks Kt Ku Kv Kw Kx Ky Kz Ma Mb Mc Md Me Mf Mg Mh Mi Mj Mk Ml Mm Mn Mo Mp Mq Mr Ms Mt Mu Mv Mw Mx My Mz Na Nb Nc Nd Ne Nf Ng Nh Ni Nj Nk Nl Nm Nn No Np Nq Nr Ns Nt Nu Nv Nw Nx Ny Nz Qa Qb Qc Qd Qe Qf Qg Qh Qi Qj Qk Ql Qm Qn Qo Qp Qq Qr Qs Qt Qu Qv Qw Qx Qy Qz Ua Ub Uc Ud Ue Uf Ug Uh Ui Uj Uk Ul Um Un Uo Up Uq Ur Us Ut Uu Uv : HV} (h : J0 D H k y0 y1 y2 y24 S = some p) : HRun Tryz.prog base W0 β0 3 none [.inRegion r12 [7,8,9,10,11,12,13,14],.code c13,.code c18] ⟨[(.int .i64 y0),(Sl.hv y1),(.str y2),Gd,Ge,Gf,Gg,Gh,Gi,Gj,Gk,Gl,Gm,Gn,Go,Gp,Gq,Gr,Gs,Gt,Gu,Gv,Gw,Gx,(.bool y24),Gz,Ka,Kb,Kc,Kd,Ke,Kf,Kg,Kh,Ki,Kj,Kk,Kl,Km,Kn,Ko,Kp,Kq,Kr,Ks,Kt,Ku,Kv,Kw,Kx,Ky,Kz,Ma,Mb,Mc,Md,Me,Mf,Mg,Mh,Mi,Mj,Mk,Ml,Mm,Mn,Mo,Mp,Mq,Mr,Ms,Mt,Mu,Mv,Mw,Mx,My,Mz,Na,Nb,Nc,Nd,Ne,Nf,Ng,Nh,Ni,Nj,Nk,Nl,Nm,Nn,No,Np,Nq,Nr,Ns,Nt,Nu,Nv,Nw,Nx,Ny,Nz,Qa,Qb,Qc,Qd,Qe,Qf,Qg,Qh,Qi,Qj,Qk,Ql,Qm,Qn,Qo,Qp,Qq,Qr,Qs,Qt,Qu,Qv,Qw,Qx,Qy,Qz,Ua,Ub,Uc,Ud,Ue,Uf,Ug,Uh,Ui,Uj,Uk,Ul,Um,Un,Uo,Up,Uq,Ur,Us,Ut,Uu,Uv],[]⟩ S (fun v S1 => v = (.bool p.1) ∧ S1 = p.2) := by
 unfold J0 at h
 refine qS 25 rfl (oM · rfl) ?_
 try dsimp only [w0,w1,w2,w3]
 rcases ifc h with ⟨hc5,h⟩ | ⟨hc5,h⟩
 ·refine q_skip (dst := some 26) (t := 25) rfl rfl rfl hc5 (q_skip (dst := some 27) (t := 25) rfl rfl rfl hc5 (qS 28 rfl (ok_pick_tt · (.tmp rfl) hc5 (.bool _)) ?_))
  try dsimp only [w0,w1,w2,w3]
  exact J1_snd hD hH h
 ·refine qG 25 26 rfl (bfalse hc5) (oM · rfl) (qG 25 27 rfl (bfalse hc5) (oC · rfl rfl) (qS 28 rfl (ok_pick_ff · (.tmp rfl) (bfalse hc5) (.tmp rfl)) ?_))
  try dsimp only [w0,w1,w2,w3]
  exact J1_snd hD hH h
def f (D : Dp) (H : Hd) (k : Nat) (x0 : Int) (x1 : Sl) (x2 : (List UInt8)) (S : HS) : Option ((Bool) × HS) :=
 (Option.bind (rollcalllaw21_awake.f k S) fun p1 =>
 (if (!p1.1) = true then
 some (false,p1.2) else
 (Option.bind (rollcalllaw21_great.f k x1 p1.2) fun p3 =>
 (if p3.1 = true then
 J0 D H k x0 x1 x2 true p3.2 else
 J0 D H k x0 x1 x2 (decide ((List.length x2 : Int) > 30)) p3.2))))
theorem snd {D : Dp} {H : Hd} {k : Nat} {x0 : Int} {x1 : Sl} {x2 : (List UInt8)} {S : HS} (hD : DSound Tryz.prog base W0 D) (hH : HSound Tryz.prog base W0 β0 H)  {p : (Bool) × HS} (h : f D H k x0 x1 x2 S = some p) : HCall Tryz.prog base W0 β0 3 [(.int .i64 x0),(Sl.hv x1),(.str x2)] S (fun v S1 => v = (.bool p.1) ∧ S1 = p.2) := by
 unfold f at h
 refine HCall.of_run at_.at_ body ?_
 show HRun Tryz.prog base W0 β0 3 none [.code c0] ⟨[(.int .i64 x0),(Sl.hv x1),(.str x2),τ,τ,τ,τ,τ,τ,τ,τ,τ,τ,τ,τ,τ,τ,τ,τ,τ,τ,τ,τ,τ,τ,τ,τ,τ,τ,τ,τ,τ,τ,τ,τ,τ,τ,τ,τ,τ,τ,τ,τ,τ,τ,τ,τ,τ,τ,τ,τ,τ,τ,τ,τ,τ,τ,τ,τ,τ,τ,τ,τ,τ,τ,τ,τ,τ,τ,τ,τ,τ,τ,τ,τ,τ,τ,τ,τ,τ,τ,τ,τ,τ,τ,τ,τ,τ,τ,τ,τ,τ,τ,τ,τ,τ,τ,τ,τ,τ,τ,τ,τ,τ,τ,τ,τ,τ,τ,τ,τ,τ,τ,τ,τ,τ,τ,τ,τ,τ,τ,τ,τ,τ,τ,τ,τ,τ,τ,τ,τ,τ,τ,τ,τ,τ,τ,τ,τ,τ,τ,τ,τ,τ,τ,τ,τ,τ,τ,τ,τ,τ],[]⟩ S _
 refine qQ rfl (qR rfl rfl (qS 6 rfl (ok_assign · (.bool _)) (rE ?_)))
 try dsimp only [w0,w1,w2,w3]
 obtain ⟨p1,hp1,h⟩ := bindo h
 refine qQ rfl (qQ rfl (qR rfl rfl (q_call (dst := some 16) rfl (.func _) Evs.nil (HInv.static rollcalllaw21_awake.at_ rollcalllaw21_awake.body (rollcalllaw21_awake.snd  hp1)) ?_)))
 rintro _ _ ⟨rfl,rfl⟩
 refine qS 17 rfl (ok_not · (.tmp rfl)) (rE ?_)
 try dsimp only [w0,w1,w2,w3]
 rcases ifc h with ⟨hc2,h⟩ | ⟨hc2,h⟩
 ·refine q_cond_t rfl (.tmp rfl) hc2 (qQ rfl (qR rfl rfl (qS 6 rfl (ok_assign · (.bool _)) (rE ?_))))
  try dsimp only [w0,w1,w2,w3]
  cases h
  exact q_ret rfl at_.at_ rfl (res1 rfl rfl) ⟨rfl,rfl⟩
 ·obtain ⟨p3,hp3,h⟩ := bindo h
  refine q_cond_f rfl (.tmp rfl) (bfalse hc2) (q_skipc rfl (qQ rfl (qQ rfl (qR rfl rfl (qS 18 rfl (oM · rfl) (q_call (dst := some 19) rfl (.func _) (.cons (.tmp rfl) Evs.nil) (HInv.static rollcalllaw21_great.at_ rollcalllaw21_great.body (rollcalllaw21_great.snd  hp3)) ?_))))))
  rintro _ _ ⟨rfl,rfl⟩
  refine qS 20 rfl (oM · rfl) ?_
  rcases ifc h with ⟨hc4,h⟩ | ⟨hc4,h⟩
  ·refine q_skip (dst := some 21) (t := 20) rfl rfl rfl hc4 ?_
   try dsimp only [w0,w1,w2,w3]
   refine q_skip (dst := some 22) (t := 20) rfl rfl rfl hc4 (q_skip (dst := some 23) (t := 20) rfl rfl rfl hc4 (qS 24 rfl (ok_pick_tt · (.tmp rfl) hc4 (.bool _)) ?_))
   try dsimp only [w0,w1,w2,w3]
   exact J0_snd hD hH h
  ·refine qG 20 21 rfl (bfalse hc4) (oM · rfl) ?_
   try dsimp only [w0,w1,w2,w3]
   refine qG 20 22 rfl (bfalse hc4) (ok_len_str · rfl tu9 (.tmp rfl)) (qG 20 23 rfl (bfalse hc4) (oC · rfl rfl) (qS 24 rfl (ok_pick_ff · (.tmp rfl) (bfalse hc4) (.tmp rfl)) ?_))
   try dsimp only [w0,w1,w2,w3]
   exact J0_snd hD hH h
end
end rollcalllaw21_WishPlays
section
variable {base : Nat} {W0 : World} {β0 : Bt}
def call_93 (D : Dp) (H : Hd) (k : Nat) (vs : List HV) (S : HS) : Option (HV × HS) :=
 Option.bind (args2 vs) fun a =>
 Option.bind (dF a.1) fun p0 =>
 Option.bind (dP a.2) fun p1 =>
 Option.bind (slices_Values_string_string_1.f D H k p0 p1 S) fun q =>
 some (.tup [],q.2)
theorem call_93_snd {D : Dp} {H : Hd} {k : Nat} (hD : DSound Tryz.prog base W0 D) (hH : HSound Tryz.prog base W0 β0 H) {vs : List HV} {S : HS} {p : HV × HS} (h : call_93 D H k vs S = some p) : HCall Tryz.prog base W0 β0 93 vs S (fun v1 S1 => v1 = p.1 ∧ S1 = p.2) := by
 unfold call_93 at h
 obtain ⟨a,ha,h⟩ := bindo h
 obtain ⟨p0,hp0,h⟩ := bindo h
 obtain ⟨p1,hp1,h⟩ := bindo h
 obtain ⟨q,hq,h⟩ := bindo h
 rw [args2_out ha,dF_out hp0,dP_out hp1]
 cases h
 exact slices_Values_string_string_1.snd hD hH hq
def call_58 (D : Dp) (H : Hd) (k : Nat) (vs : List HV) (S : HS) : Option (HV × HS) :=
 Option.bind (args1 vs) fun a =>
 Option.bind (dF a) fun p0 =>
 Option.bind (pair_Rel_int_string_Of_1.f p0) fun q =>
 some (.tup [],S)
theorem call_58_snd {D : Dp} {H : Hd} {k : Nat} (hD : DSound Tryz.prog base W0 D) (hH : HSound Tryz.prog base W0 β0 H) {vs : List HV} {S : HS} {p : HV × HS} (h : call_58 D H k vs S = some p) : HCall Tryz.prog base W0 β0 58 vs S (fun v1 S1 => v1 = p.1 ∧ S1 = p.2) := by
 unfold call_58 at h
 obtain ⟨a,ha,h⟩ := bindo h
 obtain ⟨p0,hp0,h⟩ := bindo h
 obtain ⟨q,hq,h⟩ := bindo h
 rw [args1_out ha,dF_out hp0]
 cases h
 exact pair_Rel_int_string_Of_1.snd hq
def call_42 (D : Dp) (H : Hd) (k : Nat) (vs : List HV) (S : HS) : Option (HV × HS) :=
 Option.bind (args2 vs) fun a =>
 Option.bind (dF a.1) fun p0 =>
 Option.bind (dP a.2) fun p1 =>
 Option.bind (wish_Lists_Of_1.f D H k p0 p1 S) fun q =>
 some (.tup [],q.2)
theorem call_42_snd {D : Dp} {H : Hd} {k : Nat} (hD : DSound Tryz.prog base W0 D) (hH : HSound Tryz.prog base W0 β0 H) {vs : List HV} {S : HS} {p : HV × HS} (h : call_42 D H k vs S = some p) : HCall Tryz.prog base W0 β0 42 vs S (fun v1 S1 => v1 = p.1 ∧ S1 = p.2) := by
 unfold call_42 at h
 obtain ⟨a,ha,h⟩ := bindo h
 obtain ⟨p0,hp0,h⟩ := bindo h
 obtain ⟨p1,hp1,h⟩ := bindo h
 obtain ⟨q,hq,h⟩ := bindo h
 rw [args2_out ha,dF_out hp0,dP_out hp1]
 cases h
 exact wish_Lists_Of_1.snd hD hH hq
def call_99 (D : Dp) (H : Hd) (k : Nat) (vs : List HV) (S : HS) : Option (HV × HS) :=
 Option.bind (args2 vs) fun a =>
 Option.bind (dF a.1) fun p0 =>
 Option.bind (dP a.2) fun p1 =>
 Option.bind (slices_Values_int_int_1.f D H k p0 p1 S) fun q =>
 some (.tup [],q.2)
theorem call_99_snd {D : Dp} {H : Hd} {k : Nat} (hD : DSound Tryz.prog base W0 D) (hH : HSound Tryz.prog base W0 β0 H) {vs : List HV} {S : HS} {p : HV × HS} (h : call_99 D H k vs S = some p) : HCall Tryz.prog base W0 β0 99 vs S (fun v1 S1 => v1 = p.1 ∧ S1 = p.2) := by
 unfold call_99 at h
 obtain ⟨a,ha,h⟩ := bindo h
 obtain ⟨p0,hp0,h⟩ := bindo h
 obtain ⟨p1,hp1,h⟩ := bindo h
 obtain ⟨q,hq,h⟩ := bindo h
 rw [args2_out ha,dF_out hp0,dP_out hp1]
 cases h
 exact slices_Values_int_int_1.snd hD hH hq
def call_64 (D : Dp) (H : Hd) (k : Nat) (vs : List HV) (S : HS) : Option (HV × HS) :=
 Option.bind (args1 vs) fun a =>
 Option.bind (dF a) fun p0 =>
 Option.bind (pair_Rel_int_string_By_1.f p0) fun q =>
 some (.tup [],S)
theorem call_64_snd {D : Dp} {H : Hd} {k : Nat} (hD : DSound Tryz.prog base W0 D) (hH : HSound Tryz.prog base W0 β0 H) {vs : List HV} {S : HS} {p : HV × HS} (h : call_64 D H k vs S = some p) : HCall Tryz.prog base W0 β0 64 vs S (fun v1 S1 => v1 = p.1 ∧ S1 = p.2) := by
 unfold call_64 at h
 obtain ⟨a,ha,h⟩ := bindo h
 obtain ⟨p0,hp0,h⟩ := bindo h
 obtain ⟨q,hq,h⟩ := bindo h
 rw [args1_out ha,dF_out hp0]
 cases h
 exact pair_Rel_int_string_By_1.snd hq
def call_45 (D : Dp) (H : Hd) (k : Nat) (vs : List HV) (S : HS) : Option (HV × HS) :=
 Option.bind (args1 vs) fun a =>
 Option.bind (dF a) fun p0 =>
 Option.bind (wish_Lists_By_1.f p0) fun q =>
 some (.tup [],S)
theorem call_45_snd {D : Dp} {H : Hd} {k : Nat} (hD : DSound Tryz.prog base W0 D) (hH : HSound Tryz.prog base W0 β0 H) {vs : List HV} {S : HS} {p : HV × HS} (h : call_45 D H k vs S = some p) : HCall Tryz.prog base W0 β0 45 vs S (fun v1 S1 => v1 = p.1 ∧ S1 = p.2) := by
 unfold call_45 at h
 obtain ⟨a,ha,h⟩ := bindo h
 obtain ⟨p0,hp0,h⟩ := bindo h
 obtain ⟨q,hq,h⟩ := bindo h
 rw [args1_out ha,dF_out hp0]
 cases h
 exact wish_Lists_By_1.snd hq
def disp (k : Nat) : Nat → Dp
 | 0 => fun _ _ _ _ => none
 | n + 1 => fun H fv vs S => match fv with
  | .fn (.yield l) [] [] => Option.bind (H l) fun r => r vs S
  | .fn (.func f) xs ys => if f = 93 then call_93 (disp k n) H k (xs ++ vs ++ ys) S else if f = 58 then call_58 (disp k n) H k (xs ++ vs ++ ys) S else if f = 42 then call_42 (disp k n) H k (xs ++ vs ++ ys) S else if f = 99 then call_99 (disp k n) H k (xs ++ vs ++ ys) S else if f = 64 then call_64 (disp k n) H k (xs ++ vs ++ ys) S else if f = 45 then call_45 (disp k n) H k (xs ++ vs ++ ys) S else none
  | _ => none
theorem disp_func {k n : Nat} {H : Hd} {f : Nat} {xs ys vs : List HV} {S : HS} : disp k (n + 1) H (.fn (.func f) xs ys) vs S = (if f = 93 then call_93 (disp k n) H k (xs ++ vs ++ ys) S else if f = 58 then call_58 (disp k n) H k (xs ++ vs ++ ys) S else if f = 42 then call_42 (disp k n) H k (xs ++ vs ++ ys) S else if f = 99 then call_99 (disp k n) H k (xs ++ vs ++ ys) S else if f = 64 then call_64 (disp k n) H k (xs ++ vs ++ ys) S else if f = 45 then call_45 (disp k n) H k (xs ++ vs ++ ys) S else none) := rfl
theorem disp_yield {k n : Nat} {H : Hd} {l : Nat} {vs : List HV} {S : HS} : disp k (n + 1) H (.fn (.yield l) [] []) vs S = Option.bind (H l) fun r => r vs S := rfl
theorem disp_snd {k : Nat} : ∀ n,DSound Tryz.prog base W0 (disp k n) := by
 intro n
 induction n with
 | zero => intro _ _ _ _ _ _ _ _ h; cases h
 | succ n ih =>
  intro β0 H hH fv vs S v S' h
  unfold disp at h
  split at h
  ·obtain ⟨r,hr,h⟩ := bindo h
   exact hH _ _ hr _ _ _ _ h
  ·skip
   rcases ifc h with ⟨hf,h⟩ | ⟨hf,h⟩
   ·subst hf; exact HInv.func slices_Values_string_string_1.at_ slices_Values_string_string_1.body (call_93_snd (k := k) ih hH h)
   rcases ifc h with ⟨hf,h⟩ | ⟨hf,h⟩
   ·subst hf; exact HInv.func pair_Rel_int_string_Of_1.at_ pair_Rel_int_string_Of_1.body (call_58_snd (k := k) ih hH h)
   rcases ifc h with ⟨hf,h⟩ | ⟨hf,h⟩
   ·subst hf; exact HInv.func wish_Lists_Of_1.at_ wish_Lists_Of_1.body (call_42_snd (k := k) ih hH h)
   rcases ifc h with ⟨hf,h⟩ | ⟨hf,h⟩
   ·subst hf; exact HInv.func slices_Values_int_int_1.at_ slices_Values_int_int_1.body (call_99_snd (k := k) ih hH h)
   rcases ifc h with ⟨hf,h⟩ | ⟨hf,h⟩
   ·subst hf; exact HInv.func pair_Rel_int_string_By_1.at_ pair_Rel_int_string_By_1.body (call_64_snd (k := k) ih hH h)
   rcases ifc h with ⟨hf,h⟩ | ⟨hf,h⟩
   ·subst hf; exact HInv.func wish_Lists_By_1.at_ wish_Lists_By_1.body (call_45_snd (k := k) ih hH h)
   cases h
  ·cases h
end
end Go.Proofs.YtcphapfclncggaaGreatDoor.X
namespace Go.Proofs.YtcphapfclncggaaGreatDoor.X
open Go.Proofs.YtcphapfclncggaaGreatDoor.HL
set_option linter.unusedVariables false
theorem vec_keep {n z : Nat} {T T' : HS} {s : Sl} {rows : List (List HV)} (h : Vec n T z s rows) (he : ∀ q,s.a = some q → T'.heap q.1 = T.heap q.1) (hn : T.next ≤ T'.next) : Vec n T' z s rows := by
 cases h with
 | nil => exact .nil
 | open_ g1 g2 g3 => exact .open_ ((he _ rfl).trans g1) g2 (Nat.lt_of_lt_of_le g3 hn)
 | capped g1 g2 g3 g4 g5 g6 => exact .capped ((he _ rfl).trans g1) g2 (Nat.lt_of_lt_of_le g3 hn) g4 g5 g6
theorem rows_keep {S S' : HS} {z : Nat} {s : Sl} {rows : List (List HV)} (h : S.rows s z = some rows) (hk : ∀ q,s.a = some q → S'.heap q.1 = S.heap q.1) : S'.rows s z = some rows := by
 unfold HS.rows at h ⊢
 cases ha : s.a with
 | none => rw [ha] at h; exact h
 | some q =>
  obtain ⟨id,off⟩ := q
  rw [ha] at h
  simp only at h ⊢
  rw [hk _ ha]
  exact h
def OV (S : HS) (z : Nat) (s : Sl) (rows : List (List HV)) : Prop := (s.a = none ∧ s.len = 0 ∧ rows = []) ∨ ∃ id,s = ⟨some (id,0),rows.length,none⟩ ∧ S.heap id = .cells z rows true ∧ id < S.next
theorem OV.keep {S S' : HS} {z : Nat} {s : Sl} {rows : List (List HV)} (h : OV S z s rows) (he : ∀ q,s.a = some q → S'.heap q.1 = S.heap q.1) (hn : S.next ≤ S'.next) : OV S' z s rows := by
 rcases h with h | ⟨id,rfl,h2,h3⟩
 ·exact .inl h
 ·exact .inr ⟨id,rfl,(he _ rfl).trans h2,Nat.lt_of_lt_of_le h3 hn⟩
theorem OV.rows {S : HS} {z : Nat} {s : Sl} {rows : List (List HV)} (h : OV S z s rows) : S.rows s z = some rows := by
 rcases h with ⟨h1,h2,rfl⟩ | ⟨id,rfl,h2,h3⟩
 ·unfold HS.rows; rw [h1]; simp [h2]
 ·simp [HS.rows,h2]
theorem OV.len {S : HS} {z : Nat} {s : Sl} {rows : List (List HV)} (h : OV S z s rows) : s.len = rows.length := (rows_len h.rows).symm
theorem OV.lt {S : HS} {z : Nat} {s : Sl} {rows : List (List HV)} (h : OV S z s rows) {q : Nat × Nat} (hq : s.a = some q) : q.1 < S.next := by
 rcases h with ⟨h1,_,_⟩ | ⟨id,rfl,h2,h3⟩
 ·rw [h1] at hq; cases hq
 ·cases hq; exact h3
theorem ins_ov {S : HS} {z : Nat} {s : Sl} {rows : List (List HV)} {row : List HV} (h : OV S z s rows) {i : Nat} (hi : i ≤ rows.length) (hb : rows.length + 1 ≤ 2147483648) :
  ∃ s' S',(S.lit [row] z).2.ins s (i : Int) (S.lit [row] z).1 z = some (s',S') ∧ OV S' z s' (rows.take i ++ [row] ++ rows.drop i) ∧ S.next ≤ S'.next ∧ (∀ id,id < S.next → (∀ q,s.a = some q → q.1 ≠ id) → S'.heap id = S.heap id) ∧ ∀ q,s'.a = some q → S.next ≤ q.1 := by
 have hr : (S.lit [row] z).2.rows (S.lit [row] z).1 z = some [row] := by simp [HS.lit,HS.rows,new_here]
 unfold HS.ins
 rw [hr,Option.bind_some]
 rcases h with ⟨h1,h2,rfl⟩ | ⟨id,rfl,h2,h3⟩
 ·obtain rfl : i = 0 := by simpa using hi
  rw [if_neg (by rw [h2]; simp),h1]
  simp only
  rw [if_pos ⟨h2,rfl⟩]
  refine ⟨_,_,rfl,.inr ⟨_,rfl,new_here _ _,Nat.lt_succ_self _⟩,?_,fun id hid _ => ?_,fun q hq => ?_⟩
  ·simp only [HS.lit,new_next]; omega
  ·rw [new_old _ (by simp only [HS.lit,new_next]; omega)]; exact new_old _ hid
  ·cases hq; simp only [HS.lit,new_next]; omega
 ·rw [if_neg (by simp; omega)]
  have hid : (S.lit [row] z).2.heap id = .cells z rows true := (new_old _ h3).trans h2
  simp only [hid,show (S.lit [row] z).1.a = some (S.next,0) from rfl]
  have hc : z = z ∧ (0 : Nat) = 0 ∧ (none : Option Nat) = none ∧ rows.length = rows.length ∧ (0 : Int) ≤ (i : Int) ∧ (i : Int) ≤ (rows.length : Int) ∧ S.next ≠ id ∧ S.next < (S.lit [row] z).2.next ∧ (S.lit [row] z).2.mrk S.next ≠ 1 ∧ ((S.lit [row] z).2.heap S.next).own = true := by
   refine ⟨rfl,rfl,rfl,rfl,by omega,by omega,by omega,Nat.lt_succ_self _,?_,?_⟩
   ·simp [HS.lit,HS.new,HS.newM]
   ·show ((S.new _).heap S.next).own = true
    rw [new_here]; rfl
  rw [if_pos (by simpa using hc)]
  have hn : (S.lit [row] z).2.next = S.next + 1 := rfl
  refine ⟨_,_,rfl,.inr ⟨S.next + 2,?_,?_,?_⟩,?_,fun x hx hq => ?_,fun q hq => ?_⟩
  ·simp only [hn]; simp; omega
  ·simp [HS.swap,hn]
  ·show S.next + 2 < (S.lit [row] z).2.next + 2; rw [hn]; omega
  ·show S.next ≤ (S.lit [row] z).2.next + 2; rw [hn]; omega
  ·have hxi : x ≠ id := fun e => hq _ rfl e.symm
   show (if x = (S.lit [row] z).2.next + 1 then _ else if x = (S.lit [row] z).2.next ∨ x = id then HObj.dead else (S.lit [row] z).2.heap x) = S.heap x
   rw [if_neg (by omega),if_neg (by omega)]
   exact new_old _ hx
  ·cases hq; simp only [hn]; omega
theorem del_ov {S : HS} {z : Nat} {s : Sl} {rows : List (List HV)} (h : OV S z s rows) {i : Nat} (hi : i < rows.length) (hb : rows.length ≤ 2147483648) :
  ∃ s' S',S.del s (i : Int) ((i + 1 : Nat) : Int) z = some (s',S') ∧ OV S' z s' (rows.eraseIdx i) ∧ S.next ≤ S'.next ∧ (∀ id,id < S.next → (∀ q,s.a = some q → q.1 ≠ id) → S'.heap id = S.heap id) ∧ ∀ q,s'.a = some q → S.next ≤ q.1 := by
 rcases h with ⟨h1,h2,rfl⟩ | ⟨id,rfl,h2,h3⟩
 ·simp at hi
 ·unfold HS.del
  simp only [h2]
  rw [if_pos (by refine ⟨trivial,trivial,trivial,trivial,?_,?_,?_,?_⟩ <;> omega)]
  refine ⟨_,_,rfl,.inr ⟨S.next,?_,?_,Nat.lt_succ_self _⟩,Nat.le_succ _,fun x hx hq => ?_,fun q hq => by cases hq; exact Nat.le_refl _⟩
  ·simp only [Int.toNat_natCast,List.length_eraseIdx,if_pos hi]
   congr 1; omega
  ·show (if S.next = S.next then HObj.cells z (rows.take (i : Int).toNat ++ rows.drop ((i + 1 : Nat) : Int).toNat) true else _) = _
   rw [if_pos rfl,Int.toNat_natCast,Int.toNat_natCast,List.eraseIdx_eq_take_drop_succ]
  ·show (if x = S.next then _ else if x = id then HObj.dead else S.heap x) = S.heap x
   rw [if_neg (by omega),if_neg (fun e => hq _ rfl e.symm)]
theorem rows_cut {S : HS} {s : Sl} {z : Nat} {rows : List (List HV)} (h : S.rows s z = some rows) {m : Nat} (hm : m ≤ rows.length) : ∃ sc,S.cut s (m : Int) (rows.length : Int) z = some sc ∧ S.rows sc z = some (rows.drop m) := by
 have hl := rows_len h
 obtain ⟨sa,sl,sc⟩ := s
 have hl2 : rows.length = sl := hl
 subst hl2
 cases sa with
 | none =>
  simp only [HS.rows] at h
  split at h
  ·rename_i e
   cases h
   obtain rfl : m = 0 := by simpa using hm
   exact ⟨⟨none,0,sc⟩,by simp [HS.cut],by simp [HS.rows]⟩
  ·cases h
 | some p =>
  obtain ⟨id,off⟩ := p
  simp only [HS.rows] at h
  split at h
  ·rename_i z' rws own hh
   split at h
   ·rename_i hc
    obtain ⟨rfl,hc⟩ := hc
    simp only [Option.some.injEq] at h
    refine ⟨_,cut_len hh hm (Nat.le_refl _),?_⟩
    rw [rows_at hh (by omega)]
    congr 1
    rw [← List.drop_drop,← List.drop_take,h]
   ·cases h
  ·cases h
theorem cut_keep {S S' : HS} {s : Sl} (l h : Int) (z : Nat) (hk : ∀ q,s.a = some q → S'.heap q.1 = S.heap q.1) : S'.cut s l h z = S.cut s l h z := by
 unfold HS.cut
 cases ha : s.a with
 | none => rfl
 | some q => obtain ⟨id,off⟩ := q; simp only [hk _ ha]
theorem rows_cutT {S : HS} {s : Sl} {z : Nat} {rows : List (List HV)} (h : S.rows s z = some rows) {m : Nat} (hm : m ≤ rows.length) : ∃ sc,S.cut s 0 (m : Int) z = some sc ∧ S.rows sc z = some (rows.take m) := by
 have hl := rows_len h
 obtain ⟨sa,sl,sc⟩ := s
 have hl2 : rows.length = sl := hl
 subst hl2
 cases sa with
 | none =>
  simp only [HS.rows] at h
  split at h
  ·rename_i e
   cases h
   obtain rfl : m = 0 := by simpa using hm
   exact ⟨⟨none,0,sc⟩,by simp [HS.cut],by simp [HS.rows]⟩
  ·cases h
 | some p =>
  obtain ⟨id,off⟩ := p
  simp only [HS.rows] at h
  split at h
  ·rename_i z' rws own hh
   split at h
   ·rename_i hc
    obtain ⟨rfl,hc⟩ := hc
    simp only [Option.some.injEq] at h
    have e := cut_len (S := S) (id := id) (off := off) (len := rows.length) (c := sc) (l := 0) (q := m) hh (Nat.zero_le _) hm
    rw [show ((0 : Nat) : Int) = 0 from rfl] at e
    refine ⟨_,e,?_⟩
    rw [rows_at hh (by omega)]
    congr 1
    rw [Nat.sub_zero,Nat.add_zero,← h,List.take_take,Nat.min_eq_left (by omega)]
   ·cases h
  ·cases h
theorem mid_eq {i j : Nat} (h : i + j ≤ 1000000) : w64 (Int.fdiv (IntKind.wrap .u64 (w64 ((i : Int) + (j : Int)))) (2 ^ (min (Int.toNat 1) (IntKind.bits .u64)))) = (((i + j) / 2 : Nat) : Int) := by
 have e1 : w64 ((i : Int) + (j : Int)) = ((i + j : Nat) : Int) := by rw [w64_id (by omega) (by omega)]; omega
 have e2 : IntKind.wrap .u64 ((i + j : Nat) : Int) = ((i + j : Nat) : Int) := by
  simp only [IntKind.wrap,IntKind.signed,IntKind.bits]
  simp
  omega
 have e3 : (2 : Int) ^ (min (Int.toNat 1) (IntKind.bits .u64)) = 2 := by decide
 rw [e1,e2,e3]
 have e4 : Int.fdiv ((i + j : Nat) : Int) 2 = (((i + j) / 2 : Nat) : Int) := by
  rw [Int.fdiv_eq_ediv_of_nonneg _ (by omega)]; omega
 rw [e4,w64_id (by omega) (by omega)]
theorem OV.none {S : HS} {z : Nat} {s : Sl} {rows : List (List HV)} (h : OV S z s rows) (ha : s.a = none) : rows = [] := by
 rcases h with ⟨_,_,h⟩ | ⟨id,rfl,_,_⟩
 ·exact h
 ·cases ha
theorem OV.rd {S : HS} {z : Nat} {s : Sl} {rows : List (List HV)} (h : OV S z s rows) : Rd S.next S z s rows := ⟨h.rows,fun q hq => h.lt hq⟩
theorem get_at {S : HS} {s : Sl} {rows : List (List HV)} (h : S.rows s 1 = some rows) {i : Nat} (hi : i < rows.length) {v : HV} (hv : rows[i] = [v]) : ∃ ad,S.idx s (i : Int) 1 = some ad ∧ S.get ad = some v := by
 obtain ⟨ad,h1,h2,h3⟩ := rows_idx h (i := i) hi
 refine ⟨ad,h1,?_⟩
 have := row_get (j := 0) (v := v) h3 h2 (by simp [hv])
 obtain ⟨a1,a2,a3⟩ := ad
 simp only at h2
 subst h2
 exact this
theorem row_ldM {S : HS} {ad : HA} {r : List HV} {m : Option Nat} {j : Nat} (h : S.row ad.id ad.i = some r) (hj : ad.j = 0) (hv : r[j]? = some (.map m)) : S.ldM (HA.fld ad j) = some m := by
 rw [HS.ldM,row_get h hj hv]; rfl
theorem dI_at (n : Int) : dI .i64 (HV.int .i64 n) = some n := by simp [dI]
theorem dS_at (s : List UInt8) : dS (HV.str s) = some s := rfl
def Own (p : Nat) (s : Sl) (id : Nat) : Prop := id = p ∨ ∃ q,s.a = some q ∧ q.1 = id
structure Only (q : Nat) (s s' : Sl) (S S' : HS) : Prop where
 le : S.next ≤ S'.next
 eq : ∀ id,id < S.next → ¬ Own q s id → S'.heap id = S.heap id
 own : ∀ id,Own q s' id → Own q s id ∨ S.next ≤ id
theorem Only.refl (q : Nat) (s : Sl) (S : HS) : Only q s s S S := ⟨Nat.le_refl _,fun _ _ _ => rfl,fun _ h => .inl h⟩
theorem Only.trans {q : Nat} {s s' s'' : Sl} {S S' S'' : HS} (h : Only q s s' S S') (k : Only q s' s'' S' S'') : Only q s s'' S S'' :=
 ⟨Nat.le_trans h.le k.le,fun id h1 h2 => (k.eq id (Nat.lt_of_lt_of_le h1 h.le) (fun ho => (h.own id ho).elim h2 (fun h3 => by omega))).trans (h.eq id h1 h2),fun id ho => by
  rcases k.own id ho with h1 | h1
  ·exact h.own id h1
  ·have := h.le; exact .inr (by omega)⟩
theorem Only.of_fr {q : Nat} {s : Sl} {S S' : HS} (h : Fr S.next S S') : Only q s s S S' := ⟨h.le,fun id h1 _ => h.eq id h1,fun _ ho => .inl ho⟩
structure Tld (H : Hd) (l : Nat) (vs : List (List HV)) (I : Nat → (Nat → Prop) → HS → Prop) (Stop : (Nat → Prop) → HS → Prop) : Prop where
 keep : ∀ i O S S',I i O S → (∀ id,O id → S'.heap id = S.heap id) → S.next ≤ S'.next → I i O S'
 keepS : ∀ O S S',Stop O S → (∀ id,O id → S'.heap id = S.heap id) → S.next ≤ S'.next → Stop O S'
 lt : ∀ i O S,I i O S → ∀ id,O id → id < S.next
 ltS : ∀ O S,Stop O S → ∀ id,O id → id < S.next
 step : ∀ i (hi : i < vs.length) O S,I i O S → ∃ b S' O',Option.bind (H l) (fun r => r vs[i] S) = some (.bool b,S') ∧ S.next ≤ S'.next ∧ (∀ id,id < S.next → ¬ O id → S'.heap id = S.heap id) ∧ (∀ id,O' id → O id ∨ S.next ≤ id) ∧ (b = true → I (i + 1) O' S') ∧ (b = false → Stop O' S')
def Tells (D : Dp) (fv : HV) (vs : List (List HV)) (K : Nat → Prop) (B : HS) : Prop :=
 ∀ (H : Hd) (l : Nat) (I : Nat → (Nat → Prop) → HS → Prop) (Stop : (Nat → Prop) → HS → Prop),Tld H l vs I Stop → ∀ (O : Nat → Prop) (S : HS),I 0 O S → (∀ id,K id → S.heap id = B.heap id ∧ ¬ O id ∧ id < S.next) →
  ∃ S' O',D H fv [.fn (.yield l) [] []] S = some (.tup [],S') ∧ S.next ≤ S'.next ∧ (∀ id,id < S.next → ¬ O id → S'.heap id = S.heap id) ∧ (∀ id,O' id → O id ∨ S.next ≤ id) ∧ (I vs.length O' S' ∨ Stop O' S')
structure Chg (O O' : Nat → Prop) (S S' : HS) : Prop where
 le : S.next ≤ S'.next
 eq : ∀ id,id < S.next → ¬ O id → S'.heap id = S.heap id
 own : ∀ id,O' id → O id ∨ S.next ≤ id
theorem Chg.refl (O : Nat → Prop) (S : HS) : Chg O O S S := ⟨Nat.le_refl _,fun _ _ _ => rfl,fun _ h => .inl h⟩
theorem Chg.trans {O O' O'' : Nat → Prop} {S S' S'' : HS} (h : Chg O O' S S') (k : Chg O' O'' S' S'') : Chg O O'' S S'' :=
 ⟨Nat.le_trans h.le k.le,fun id h1 h2 => (k.eq id (Nat.lt_of_lt_of_le h1 h.le) (fun ho => (h.own id ho).elim h2 (fun h3 => by omega))).trans (h.eq id h1 h2),fun id ho => by
  rcases k.own id ho with h1 | h1
  ·exact h.own id h1
  ·have := h.le; exact .inr (by omega)⟩
theorem Chg.of_fr {O : Nat → Prop} {S S' : HS} (h : Fr S.next S S') : Chg O O S S' := ⟨h.le,fun id h1 _ => h.eq id h1,fun _ ho => .inl ho⟩
theorem range_tells {D : Dp} {H : Hd} {fv : HV} {vs : List (List HV)} {K : Nat → Prop} {S : HS} {hd : List HV → HS → Option (HV × HS)} {bd : Nat → HS → Option (HV × HS)}
  (hT : Tells D fv vs K S) (hK : ∀ id,K id → id < S.next) (I : Nat → (Nat → Prop) → HS → Prop) (Q : Code → (Nat → Prop) → HS → Prop)
  (keepI : ∀ i O T T',I i O T → (∀ id,O id → T'.heap id = T.heap id) → T.next ≤ T'.next → I i O T')
  (keepQ : ∀ c O T T',Q c O T → (∀ id,O id → T'.heap id = T.heap id) → T.next ≤ T'.next → Q c O T')
  (O : Nat → Prop) (hO : ∀ id,O id → id < S.next) (hI : I 0 O S) (hOK : ∀ id,O id → ¬ K id)
  (hdef : ∀ i (hi : i < vs.length) T,T.heap (S.next + 1) = .loop .ready none → hd vs[i] T = bd i (T.put (S.next + 1) (.loop .busy none)))
  (step : ∀ i (hi : i < vs.length) O1 U,I i O1 U → S.next + 2 ≤ U.next → U.heap (S.next + 1) = .loop .busy none → ¬ O1 (S.next + 1) → (∀ id,O1 id → id < U.next) →
   ∃ U' O2 j,bd i U = U'.endr (S.next + 1) j ∧ Chg O1 O2 U U' ∧ (∀ id,O2 id → id < U'.next) ∧ (j = none → I (i + 1) O2 U') ∧ ∀ c,j = some c → Q c O2 U') :
  ∃ T st S' O',D (Hd.set H (S.next + 1) hd) fv [.fn (.yield (S.next + 1)) [] []] ((S.new .defer).new (.loop .ready none)) = some (.tup [],T) ∧ T.finish (S.next + 1) = some (st,S') ∧ S'.heap S.next = .defer ∧ S.next + 2 ≤ S'.next ∧
   Chg O O' S S' ∧ (∀ id,O' id → id ≠ S.next ∧ id ≠ S.next + 1 ∧ id < S'.next) ∧ (st = none → I vs.length O' S') ∧ (∀ c,st = some c → Q c O' S') := by
 have f2 : Fr S.next S ((S.new .defer).new (.loop .ready none)) := (Fr.new (Nat.le_refl _) _).trans (Fr.new (by rw [new_next]; omega) _)
 have n2 : ((S.new .defer).new (.loop .ready none)).next = S.next + 2 := rfl
 have d2 : ((S.new .defer).new (.loop .ready none)).heap S.next = .defer := by rw [new_old _ (by rw [new_next]; omega)]; exact new_here _ _
 have l2 : ((S.new .defer).new (.loop .ready none)).heap (S.next + 1) = .loop .ready none := new_here (S.new .defer) _
 generalize (S.new .defer).new (.loop .ready none) = S0 at f2 n2 d2 l2 ⊢
 let J : Nat → (Nat → Prop) → HS → Prop := fun i OO T => ∃ O1,(∀ id,OO id ↔ (O1 id ∨ id = S.next ∨ id = S.next + 1)) ∧ (∀ id,O1 id → id ≠ S.next ∧ id ≠ S.next + 1 ∧ id < T.next ∧ (O id ∨ S.next + 2 ≤ id)) ∧ I i O1 T ∧ T.heap S.next = .defer ∧ T.heap (S.next + 1) = .loop .ready none ∧ S.next + 2 ≤ T.next
 let St : (Nat → Prop) → HS → Prop := fun OO T => ∃ O1 c,(∀ id,OO id ↔ (O1 id ∨ id = S.next ∨ id = S.next + 1)) ∧ (∀ id,O1 id → id ≠ S.next ∧ id ≠ S.next + 1 ∧ id < T.next ∧ (O id ∨ S.next + 2 ≤ id)) ∧ Q c O1 T ∧ T.heap S.next = .defer ∧ T.heap (S.next + 1) = .loop .done (some c) ∧ S.next + 2 ≤ T.next
 have hO' : ∀ id,O id → id ≠ S.next ∧ id ≠ S.next + 1 ∧ id < S0.next := fun id h => by have := hO id h; omega
 obtain ⟨T,O',e,t1,t2,t3,t4⟩ := hT (Hd.set H (S.next + 1) hd) (S.next + 1) J St (by
   refine ⟨fun i OO T T' h hk hn => ?_,fun OO T T' h hk hn => ?_,fun i OO T h id ho => ?_,fun OO T h id ho => ?_,fun i hi OO T h => ?_⟩
   ·obtain ⟨O1,a1,a2,a3,a4,a5,a6⟩ := h
    exact ⟨O1,a1,fun id ho => ⟨(a2 id ho).1,(a2 id ho).2.1,by have := (a2 id ho).2.2.1; omega,(a2 id ho).2.2.2⟩,keepI _ _ _ _ a3 (fun id ho => hk id ((a1 id).2 (.inl ho))) hn,(hk _ ((a1 _).2 (.inr (.inl rfl)))).trans a4,(hk _ ((a1 _).2 (.inr (.inr rfl)))).trans a5,by omega⟩
   ·obtain ⟨O1,c,a1,a2,a3,a4,a5,a6⟩ := h
    exact ⟨O1,c,a1,fun id ho => ⟨(a2 id ho).1,(a2 id ho).2.1,by have := (a2 id ho).2.2.1; omega,(a2 id ho).2.2.2⟩,keepQ _ _ _ _ a3 (fun id ho => hk id ((a1 id).2 (.inl ho))) hn,(hk _ ((a1 _).2 (.inr (.inl rfl)))).trans a4,(hk _ ((a1 _).2 (.inr (.inr rfl)))).trans a5,by omega⟩
   ·obtain ⟨O1,a1,a2,a3,a4,a5,a6⟩ := h
    rcases (a1 id).1 ho with g | g | g
    ·exact (a2 id g).2.2.1
    ·omega
    ·omega
   ·obtain ⟨O1,c,a1,a2,a3,a4,a5,a6⟩ := h
    rcases (a1 id).1 ho with g | g | g
    ·exact (a2 id g).2.2.1
    ·omega
    ·omega
   ·obtain ⟨O1,a1,a2,a3,a4,a5,a6⟩ := h
    simp only [Hd.set,if_true,Option.bind_some]
    rw [hdef i hi T a5]
    have bk : ∀ id,id ≠ S.next + 1 → (T.put (S.next + 1) (.loop .busy none)).heap id = T.heap id := fun id h => put_other _ h
    have bn : (T.put (S.next + 1) (.loop .busy none)).next = T.next := rfl
    have bl : (T.put (S.next + 1) (.loop .busy none)).heap (S.next + 1) = .loop .busy none := put_here _ _ _
    generalize T.put (S.next + 1) (.loop .busy none) = U at bk bn bl ⊢
    obtain ⟨U',O2,j,e1,c1,l1,p1,p2⟩ := step i hi O1 U (keepI _ _ _ _ a3 (fun id ho => bk id (a2 id ho).2.1) (by omega)) (by omega) bl (fun h => (a2 _ h).2.1 rfl) (fun id h => by have := (a2 id h).2.2.1; omega)
    have ul : U'.heap (S.next + 1) = .loop .busy none := (c1.eq _ (by omega) (fun h => (a2 _ h).2.1 rfl)).trans bl
    have ud : U'.heap S.next = .defer := (c1.eq _ (by omega) (fun h => (a2 _ h).1 rfl)).trans ((bk _ (by omega)).trans a4)
    have hle := c1.le
    have h2 : ∀ id,O2 id → id ≠ S.next ∧ id ≠ S.next + 1 ∧ id < U'.next ∧ (O id ∨ S.next + 2 ≤ id) := fun id h => by
     rcases c1.own id h with g | g
     ·exact ⟨(a2 id g).1,(a2 id g).2.1,l1 id h,(a2 id g).2.2.2⟩
     ·exact ⟨by omega,by omega,l1 id h,.inr (by omega)⟩
    rw [e1,endr_at j ul]
    refine ⟨j.isNone,_,fun id => O2 id ∨ id = S.next ∨ id = S.next + 1,rfl,by rw [put_next]; omega,fun id g1 g2 => ?_,fun id h => ?_,fun hj => ?_,fun hj => ?_⟩
    ·have g3 : ¬ O1 id := fun h => g2 ((a1 id).2 (.inl h))
     have g4 : id ≠ S.next + 1 := fun h => g2 ((a1 id).2 (.inr (.inr h)))
     rw [put_other _ g4,c1.eq id (by omega) g3,bk id g4]
    ·rcases h with h | h
     ·rcases c1.own id h with g | g
      ·exact .inl ((a1 id).2 (.inl g))
      ·exact .inr (by omega)
     ·exact .inl ((a1 id).2 (.inr h))
    ·have hj' : j = none := by simpa using hj
     subst hj'
     exact ⟨O2,fun _ => Iff.rfl,h2,keepI _ _ _ _ (p1 rfl) (fun id h => put_other _ (h2 id h).2.1) (Nat.le_refl _),by rw [put_other _ (by omega)]; exact ud,put_here _ _ _,by rw [put_next]; omega⟩
    ·cases j with
     | none => cases hj
     | some c => exact ⟨O2,c,fun _ => Iff.rfl,h2,keepQ _ _ _ _ (p2 c rfl) (fun id h => put_other _ (h2 id h).2.1) (Nat.le_refl _),by rw [put_other _ (by omega)]; exact ud,put_here _ _ _,by rw [put_next]; omega⟩)
  (fun id => O id ∨ id = S.next ∨ id = S.next + 1) S0 ⟨O,fun _ => Iff.rfl,fun id h => ⟨(hO' id h).1,(hO' id h).2.1,(hO' id h).2.2,.inl h⟩,keepI _ _ _ _ hI (fun id h => f2.eq id (hO id h)) f2.le,d2,l2,by omega⟩ (fun id hid => ⟨f2.eq id (hK id hid),fun ho => by
   have := hK id hid
   rcases ho with g | g | g
   ·exact hOK id g hid
   ·omega
   ·omega,by have := hK id hid; omega⟩)
 have hfr : ∀ id,id < S.next → ¬ O id → T.heap id = S.heap id := fun id h1 h2 => (t2 id (by omega) (fun ho => by
  rcases ho with g | g | g
  ·exact h2 g
  ·omega
  ·omega)).trans (f2.eq id h1)
 rcases t4 with h | h
 ·obtain ⟨O1,a1,a2,a3,a4,a5,a6⟩ := h
  refine ⟨T,none,T.put (S.next + 1) (.loop .exhausted none),O1,e,by simp [HS.finish,a5],by rw [put_other _ (by omega)]; exact a4,a6,⟨by rw [put_next]; omega,fun id h1 h2 => by rw [put_other _ (by omega)]; exact hfr id h1 h2,fun id h => (a2 id h).2.2.2.elim .inl (fun g => .inr (by omega))⟩,fun id h => ⟨(a2 id h).1,(a2 id h).2.1,(a2 id h).2.2.1⟩,fun _ => keepI _ _ _ _ a3 (fun id h => put_other _ (a2 id h).2.1) (Nat.le_refl _),fun c hc => by cases hc⟩
 ·obtain ⟨O1,c,a1,a2,a3,a4,a5,a6⟩ := h
  refine ⟨T,some c,T.put (S.next + 1) (.loop .exhausted (some c)),O1,e,by simp [HS.finish,a5],by rw [put_other _ (by omega)]; exact a4,a6,⟨by rw [put_next]; omega,fun id h1 h2 => by rw [put_other _ (by omega)]; exact hfr id h1 h2,fun id h => (a2 id h).2.2.2.elim .inl (fun g => .inr (by omega))⟩,fun id h => ⟨(a2 id h).1,(a2 id h).2.1,(a2 id h).2.2.1⟩,fun hc => (by cases hc),fun c' hc => ?_⟩
  cases hc
  exact keepQ _ _ _ _ a3 (fun id h => put_other _ (a2 id h).2.1) (Nat.le_refl _)
end Go.Proofs.YtcphapfclncggaaGreatDoor.X
namespace Go.Proofs.YtcphapfclncggaaGreatDoor.X
open Go.Proofs.YtcphapfclncggaaGreatDoor.HL
set_option linter.unusedVariables false
namespace KI
abbrev Ky := Int
def kv (k : Ky) : HV := .int .i64 k
def klt (a b : Ky) : Bool := decide (a < b)
theorem klt_irrefl (a : Ky) : klt a a = false := by simp [klt]
theorem klt_trans {a b c : Ky} (h1 : klt a b = true) (h2 : klt b c = true) : klt a c = true := by simp only [klt,decide_eq_true_eq] at *; exact Int.lt_trans h1 h2
theorem klt_tri (a b : Ky) : klt a b = true ∨ a = b ∨ klt b a = true := by simp only [klt,decide_eq_true_eq]; exact Int.lt_trichotomy a b
def row1 (k : Ky) : List HV := [kv k]
theorem ldK_at {S : HS} {s : Sl} {xs : List Ky} (h : S.rows s 1 = some (xs.map row1)) {i : Nat} (hi : i < xs.length) : ∃ ad,S.idx s (i : Int) 1 = some ad ∧ S.ldI .i64 ad = some xs[i] := by
 obtain ⟨ad,h1,h2⟩ := get_at h (i := i) (v := kv xs[i]) (by simpa using hi) (by rw [List.getElem_map]; rfl)
 exact ⟨ad,h1,by rw [HS.ldI,h2]; simp [dI,kv]⟩
theorem less_spec (a b : Ky) : cmp_Less_int.f a b = some (klt a b) := by
 have h : ∀ x,cmp_isNaN_int.f x = some false := fun x => by simp [cmp_isNaN_int.f]
 rw [cmp_Less_int.f,h,Option.bind_some,if_neg (by simp),cmp_Less_int.J0,if_neg (by simp),cmp_Less_int.J1]
 rfl
def Srt (es : List Ky) : Prop := es.Pairwise fun a b => klt a b = true
theorem Srt.lt {es : List Ky} (h : Srt es) {i j : Nat} (hi : i < es.length) (hj : j < es.length) (hij : i < j) : klt es[i] es[j] = true := List.pairwise_iff_getElem.1 h i j hi hj hij
structure PosOf (es : List Ky) (t : Ky) (p : Nat) : Prop where
 le : p ≤ es.length
 lo : ∀ q (hq : q < es.length),q < p → klt es[q] t = true
 hi : ∀ q (hq : q < es.length),p ≤ q → klt es[q] t = false
theorem klt_asymm {a b : Ky} (h : klt a b = true) : klt b a = false := by
 cases h2 : klt b a with
 | false => rfl
 | true => have := klt_trans h h2; rw [klt_irrefl] at this; cases this
theorem PosOf.gt {es : List Ky} {t : Ky} {p : Nat} (h : PosOf es t p) (hs : Srt es) (hf : t ∉ es) {q : Nat} (hq : q < es.length) (hpq : p ≤ q) : klt t es[q] = true := by
 have h1 := h.hi q hq hpq
 rcases klt_tri es[q] t with g | g | g
 ·rw [h1] at g; cases g
 ·exact absurd (g ▸ List.getElem_mem hq) hf
 ·exact g
theorem PosOf.here {es : List Ky} {t : Ky} {p : Nat} (h : PosOf es t p) (hs : Srt es) (hm : t ∈ es) : ∃ hp : p < es.length,es[p] = t := by
 obtain ⟨q,hq,he⟩ := List.getElem_of_mem hm
 have hqp : p ≤ q := by
  rcases Nat.lt_or_ge q p with g | g
  ·have := h.lo q hq g; rw [he,klt_irrefl] at this; cases this
  ·exact g
 have hp : p < es.length := by omega
 refine ⟨hp,?_⟩
 rcases Nat.eq_or_lt_of_le hqp with g | g
 ·subst g; exact he
 ·have h1 := hs.lt hp hq g
  rw [he] at h1
  rw [h.hi p hp (Nat.le_refl _)] at h1; cases h1
theorem ins_srt {es : List Ky} {t : Ky} {p : Nat} (h : PosOf es t p) (hs : Srt es) (hf : t ∉ es) : Srt (es.take p ++ [t] ++ es.drop p) := by
 unfold Srt
 rw [List.append_assoc,List.pairwise_append]
 refine ⟨List.Pairwise.sublist (List.take_sublist _ _) hs,?_,fun a ha b hb => ?_⟩
 ·rw [List.singleton_append,List.pairwise_cons]
  refine ⟨fun b hb => ?_,List.Pairwise.sublist (List.drop_sublist _ _) hs⟩
  obtain ⟨q,hq,rfl⟩ := List.getElem_of_mem hb
  rw [List.getElem_drop]
  exact h.gt hs hf _ (by omega)
 ·obtain ⟨q,hq,rfl⟩ := List.getElem_of_mem ha
  rw [List.length_take] at hq
  rw [List.getElem_take]
  have h1 := h.lo q (by omega) (by omega)
  rcases List.mem_append.1 hb with hb | hb
  ·simp only [List.mem_singleton] at hb
   subst hb; exact h1
  ·obtain ⟨q2,hq2,rfl⟩ := List.getElem_of_mem hb
   rw [List.getElem_drop]
   rw [List.length_drop] at hq2
   exact hs.lt (by omega) (by omega) (by omega)
theorem ins_mem {es : List Ky} {t : Ky} {p : Nat} (v : Ky) : v ∈ es.take p ++ [t] ++ es.drop p ↔ v ∈ es ∨ v = t := by
 simp only [List.mem_append,List.mem_singleton]
 constructor
 ·rintro ((h | h) | h)
  ·exact .inl (List.mem_of_mem_take h)
  ·exact .inr h
  ·exact .inl (List.mem_of_mem_drop h)
 ·rintro (h | h)
  ·rw [← List.take_append_drop p es,List.mem_append] at h
   rcases h with h | h
   ·exact .inl (.inl h)
   ·exact .inr h
  ·exact .inl (.inr h)
theorem erase_srt {es : List Ky} (hs : Srt es) (p : Nat) : Srt (es.eraseIdx p) := List.Pairwise.sublist (List.eraseIdx_sublist _ _) hs
theorem erase_mem {es : List Ky} (hs : Srt es) {p : Nat} (hp : p < es.length) (v : Ky) : v ∈ es.eraseIdx p ↔ v ∈ es ∧ v ≠ es[p] := by
 rw [List.mem_eraseIdx_iff_getElem]
 constructor
 ·rintro ⟨q,hq,hne,rfl⟩
  refine ⟨List.getElem_mem hq,fun he => ?_⟩
  rcases Nat.lt_or_ge q p with g | g
  ·have := hs.lt hq hp g; rw [he,klt_irrefl] at this; cases this
  ·have := hs.lt hp hq (by omega); rw [he,klt_irrefl] at this; cases this
 ·rintro ⟨hm,hne⟩
  obtain ⟨q,hq,rfl⟩ := List.getElem_of_mem hm
  exact ⟨q,hq,fun e => hne (by subst e; rfl),rfl⟩
theorem srt_ext : ∀ {a b : List Ky},Srt a → Srt b → (∀ v,v ∈ a ↔ v ∈ b) → a = b := by
 intro a
 induction a with
 | nil =>
  intro b _ _ h
  cases b with
  | nil => rfl
  | cons y b => exact absurd ((h y).2 (by simp)) (by simp)
 | cons x a ih =>
  intro b ha hb h
  cases b with
  | nil => exact absurd ((h x).1 (by simp)) (by simp)
  | cons y b =>
   have ha' := List.pairwise_cons.1 ha
   have hb' := List.pairwise_cons.1 hb
   have hxy : x = y := by
    rcases List.mem_cons.1 ((h x).1 (by simp)) with g | g
    ·exact g
    ·rcases List.mem_cons.1 ((h y).2 (by simp)) with g2 | g2
     ·exact g2.symm
     ·have h1 := hb'.1 x g
      have h2 := ha'.1 y g2
      have := klt_trans h1 h2
      rw [klt_irrefl] at this; cases this
   subst hxy
   congr 1
   refine ih ha'.2 hb'.2 fun v => ?_
   have h1 := h v
   simp only [List.mem_cons] at h1
   constructor
   ·intro hv
    rcases h1.1 (.inr hv) with g | g
    ·subst g; have := ha'.1 v hv; rw [klt_irrefl] at this; cases this
    ·exact g
   ·intro hv
    rcases h1.2 (.inr hv) with g | g
    ·subst g; have := hb'.1 v hv; rw [klt_irrefl] at this; cases this
    ·exact g
theorem bs_spec {k : Nat} {S : HS} {s : Sl} {es : List Ky} {t : Ky} (hk : 2000 ≤ k) (hs : Srt es) (hle : es.length ≤ 1000) (hr : S.rows s 1 = some (es.map row1)) :
  ∃ p : Nat,slices_BinarySearch_int_int.f k s t S = some (((p : Int),decide (t ∈ es)),S) ∧ PosOf es t p := by
 have hsl : (s.len : Int) = es.length := by rw [← rows_len hr]; simp
 have hloop : ∀ (n i j : Nat),j - i < n → i ≤ j → j ≤ es.length → (∀ q (hq : q < es.length),q < i → klt es[q] t = true) → (∀ q (hq : q < es.length),j ≤ q → klt es[q] t = false) →
   ∃ p : Nat,slices_BinarySearch_int_int.L0 k n s t (es.length : Int) (i : Int) (j : Int) S = some (((p : Int),decide (t ∈ es)),S) ∧ PosOf es t p := by
  intro n
  induction n with
  | zero => intro i j h; omega
  | succ n ih =>
   intro i j hf hij hj hlo hhi
   rw [slices_BinarySearch_int_int.L0]
   by_cases hlt : i < j
   ·rw [if_pos (by omega),mid_eq (by omega)]
    have hm : (i + j) / 2 < es.length := by omega
    obtain ⟨ad,a1,a2⟩ := ldK_at hr hm
    rw [a1,Option.bind_some,a2,Option.bind_some,less_spec,Option.bind_some]
    cases hc : klt es[(i + j) / 2] t with
    | true =>
     rw [if_pos rfl,w64_id (by omega) (by omega),show ((((i + j) / 2 : Nat) : Int) + 1) = (((i + j) / 2 + 1 : Nat) : Int) by simp]
     exact ih ((i + j) / 2 + 1) j (by omega) (by omega) hj (fun q hq hqi => by
      rcases Nat.lt_or_ge q ((i + j) / 2) with h | h
      ·exact klt_trans (hs.lt hq hm h) hc
      ·obtain rfl : q = (i + j) / 2 := by omega
       exact hc) hhi
    | false =>
     rw [if_neg (by simp)]
     exact ih i ((i + j) / 2) (by omega) (by omega) (by omega) hlo (fun q hq hqi => by
      rcases Nat.lt_or_ge ((i + j) / 2) q with h | h
      ·cases h2 : klt es[q] t with
       | false => rfl
       | true => have := klt_trans (hs.lt hm hq h) h2; rw [hc] at this; cases this
      ·obtain rfl : q = (i + j) / 2 := by omega
       exact hc)
   ·obtain rfl : i = j := by omega
    rw [if_neg (by omega)]
    have hp : PosOf es t i := ⟨hj,hlo,hhi⟩
    refine ⟨i,?_,hp⟩
    by_cases hend : i < es.length
    ·obtain ⟨ad,a1,a2⟩ := ldK_at hr hend
     rw [if_pos (by omega),a1,Option.bind_some,a2,Option.bind_some]
     by_cases he : es[i] = t
     ·rw [if_pos he,slices_BinarySearch_int_int.J1,if_pos (by simpa using hend),slices_BinarySearch_int_int.J2,decide_eq_true (he ▸ List.getElem_mem hend)]
     ·have hno : t ∉ es := fun hm => by
       obtain ⟨_,h2⟩ := hp.here hs hm
       exact he h2
      rw [if_neg he,Option.bind_some,a2,Option.bind_some,show slices_isNaN_int.f es[i] = some false by simp [slices_isNaN_int.f],Option.bind_some,if_neg (by simp),slices_BinarySearch_int_int.J3,if_pos (by simpa using hend),if_neg (by simpa using he),slices_BinarySearch_int_int.J1,if_pos (by simpa using hend),slices_BinarySearch_int_int.J2,decide_eq_false hno]
    ·have hno : t ∉ es := fun hm => by
      obtain ⟨h1,_⟩ := hp.here hs hm
      exact hend h1
     rw [if_neg (by omega),slices_BinarySearch_int_int.J2,decide_eq_false hno]
 rw [slices_BinarySearch_int_int.f,hsl]
 exact hloop k 0 es.length (by omega) (Nat.zero_le _) (Nat.le_refl _) (fun q hq h => by omega) (fun q hq h => by omega)
structure SI (p : Nat) (s : Sl) (xs : List Ky) (S : HS) : Prop where
 cell : S.heap p = .cells 1 [[s.hv]] true
 ov : OV S 1 s (xs.map row1)
 ne : ∀ q,s.a = some q → q.1 ≠ p
 hi : p < S.next
 srt : Srt xs
 cnt : xs.length ≤ 1000
theorem SI.lt {p : Nat} {s : Sl} {xs : List Ky} {S : HS} (h : SI p s xs S) {id : Nat} (ho : Own p s id) : id < S.next := by
 rcases ho with rfl | ⟨q,h1,rfl⟩
 ·exact h.hi
 ·exact h.ov.lt h1
theorem SI.keep {p : Nat} {s : Sl} {xs : List Ky} {S S' : HS} (h : SI p s xs S) (he : ∀ id,Own p s id → S'.heap id = S.heap id) (hn : S.next ≤ S'.next) : SI p s xs S' :=
 ⟨(he p (.inl rfl)).trans h.cell,h.ov.keep (fun q hq => he q.1 (.inr ⟨q,hq,rfl⟩)) hn,h.ne,Nat.lt_of_lt_of_le h.hi hn,h.srt,h.cnt⟩
theorem SI.fr {p : Nat} {s : Sl} {xs : List Ky} {S S' : HS} (h : SI p s xs S) (hf : Fr S.next S S') : SI p s xs S' := h.keep (fun id ho => hf.eq id (h.lt ho)) hf.le
theorem SI.ld {p : Nat} {s : Sl} {xs : List Ky} {S : HS} (h : SI p s xs S) : S.ldSl (HA.fld (HA.cell0 p) 0) = some s := row_ldSl (cell_row h.cell) rfl rfl
theorem SI.slen {p : Nat} {s : Sl} {xs : List Ky} {S : HS} (h : SI p s xs S) : (s.len : Int) = xs.length := by rw [h.ov.len]; simp
theorem set_put {p : Nat} {s s' : Sl} {S : HS} (h : S.heap p = .cells 1 [[s.hv]] true) : S.sets (HA.fld (HA.cell0 p) 0) [s'.hv] = some (S.put p (.cells 1 [[s'.hv]] true)) := (sets_row h rfl (by simp)).trans rfl
theorem ins_spec {p : Nat} {s : Sl} {xs : List Ky} {S : HS} (h : SI p s xs S) {t : Ky} {i : Nat} (hp : PosOf xs t i) (hno : t ∉ xs) (hroom : xs.length < 1000) :
  ∃ s' S' S1,slices_Insert_int_int_w.f s (i : Int) (S.lit [[.int .i64 t]] 1).1 (S.lit [[.int .i64 t]] 1).2 = some (s',S1) ∧ S1.sets (HA.fld (HA.cell0 p) 0) [s'.hv] = some S' ∧ SI p s' (xs.take i ++ [t] ++ xs.drop i) S' ∧ Only p s s' S S' := by
 obtain ⟨s',S1,a1,a2,a3,a4,a5⟩ := ins_ov (row := row1 t) h.ov (i := i) (by simpa using hp.le) (by simp; omega)
 have hcell : S1.heap p = .cells 1 [[s.hv]] true := by rw [a4 p h.hi h.ne]; exact h.cell
 have hne' : ∀ q,s'.a = some q → q.1 ≠ p := fun q hq => by have := a5 q hq; have := h.hi; omega
 refine ⟨s',_,S1,a1,set_put hcell,⟨put_here _ _ _,?_,hne',Nat.lt_of_lt_of_le h.hi a3,ins_srt hp h.srt hno,by simp; omega⟩,⟨by rw [put_next]; exact a3,fun id g1 g2 => ?_,fun id ho => ?_⟩⟩
 ·have hm : (xs.take i ++ [t] ++ xs.drop i).map row1 = (xs.map row1).take i ++ [row1 t] ++ (xs.map row1).drop i := by simp only [List.map_append,List.map_take,List.map_drop,List.map_cons,List.map_nil]
  rw [hm]
  exact a2.keep (fun q hq => put_other _ (hne' q hq)) (Nat.le_refl _)
 ·rw [put_other _ (fun e => g2 (.inl e))]
  exact a4 id g1 (fun q hq e => g2 (.inr ⟨q,hq,e⟩))
 ·rcases ho with g | ⟨q,g1,g2⟩
  ·exact .inl (.inl g)
  ·right; rw [← g2]; exact a5 q g1
theorem del_spec {p : Nat} {s : Sl} {xs : List Ky} {S : HS} (h : SI p s xs S) {i : Nat} (hi : i < xs.length) :
  ∃ s' S' S1,slices_Delete_int_int_w.f s (i : Int) ((i + 1 : Nat) : Int) S = some (s',S1) ∧ S1.sets (HA.fld (HA.cell0 p) 0) [s'.hv] = some S' ∧ SI p s' (xs.eraseIdx i) S' ∧ Only p s s' S S' := by
 have hcnt := h.cnt
 obtain ⟨s',S1,a1,a2,a3,a4,a5⟩ := del_ov h.ov (i := i) (by simpa using hi) (by simp; omega)
 have hcell : S1.heap p = .cells 1 [[s.hv]] true := by rw [a4 p h.hi h.ne]; exact h.cell
 have hne' : ∀ q,s'.a = some q → q.1 ≠ p := fun q hq => by have := a5 q hq; have := h.hi; omega
 refine ⟨s',_,S1,a1,set_put hcell,⟨put_here _ _ _,?_,hne',Nat.lt_of_lt_of_le h.hi a3,erase_srt h.srt i,by rw [List.length_eraseIdx,if_pos hi]; omega⟩,⟨by rw [put_next]; exact a3,fun id g1 g2 => ?_,fun id ho => ?_⟩⟩
 ·rw [Go.ChangeMaps.map_eraseIdx]
  exact a2.keep (fun q hq => put_other _ (hne' q hq)) (Nat.le_refl _)
 ·rw [put_other _ (fun e => g2 (.inl e))]
  exact a4 id g1 (fun q hq e => g2 (.inr ⟨q,hq,e⟩))
 ·rcases ho with g | ⟨q,g1,g2⟩
  ·exact .inl (.inl g)
  ·right; rw [← g2]; exact a5 q g1
theorem add_spec {k p : Nat} {s sl : Sl} {xs ls : List Ky} {S : HS} (hk : 2000 ≤ k) (h : SI p s xs S) (hr : S.rows sl 1 = some (ls.map row1)) (hlt : ∀ q,sl.a = some q → q.1 < S.next ∧ ¬ Own p s q.1) (hc : xs.length + ls.length ≤ 1000) :
  ∃ s' xs' S',set_Set_int_Add.f k (some (HA.cell0 p)) sl S = some ((xs'.length : Int) - xs.length,S') ∧ SI p s' xs' S' ∧ Only p s s' S S' ∧ (∀ v,v ∈ xs' ↔ v ∈ xs ∨ v ∈ ls) ∧ xs.length ≤ xs'.length ∧ xs'.length ≤ xs.length + ls.length := by
 have hsl : (sl.len : Int) = ls.length := by rw [← rows_len hr]; simp
 have hloop : ∀ (f i : Nat) (T : HS) (s1 : Sl) (ys : List Ky),ls.length - i < f → i ≤ ls.length → SI p s1 ys T → Only p s s1 S T → (∀ v,v ∈ ys ↔ v ∈ xs ∨ v ∈ ls.take i) → xs.length ≤ ys.length → ys.length ≤ xs.length + i →
   ∃ s' xs' S',set_Set_int_Add.L0 k f (some (HA.cell0 p)) ((ys.length : Int) - xs.length) sl (ls.length : Int) (i : Int) T = some ((xs'.length : Int) - xs.length,S') ∧ SI p s' xs' S' ∧ Only p s s' S S' ∧ (∀ v,v ∈ xs' ↔ v ∈ xs ∨ v ∈ ls) ∧ xs.length ≤ xs'.length ∧ xs'.length ≤ xs.length + ls.length := by
  intro f
  induction f with
  | zero => intro i T s1 ys h; omega
  | succ f ih =>
   intro i T s1 ys hf hi hT hO hm hge hle
   have hrT : T.rows sl 1 = some (ls.map row1) := rows_keep hr fun q hq => hO.eq q.1 (hlt q hq).1 (hlt q hq).2
   rw [set_Set_int_Add.L0]
   by_cases hil : i < ls.length
   ·obtain ⟨ad,a1,a2⟩ := ldK_at hrT hil
    obtain ⟨j,b1,hp⟩ := bs_spec (t := ls[i]) hk hT.srt hT.cnt hT.ov.rows
    have hmem : ∀ v,(v ∈ ls.take (i + 1) ↔ v ∈ ls.take i ∨ v = ls[i]) := fun v => by rw [List.take_succ_eq_append_getElem hil,List.mem_append,List.mem_singleton]
    rw [if_pos (by omega),a1,Option.bind_some,a2,Option.bind_some,Option.bind_some,hT.ld,Option.bind_some,b1,Option.bind_some]
    simp only
    by_cases hin : ls[i] ∈ ys
    ·rw [decide_eq_true hin,if_neg (by simp),set_Set_int_Add.J1,w64_id (by omega) (by omega),show ((i : Int) + 1) = ((i + 1 : Nat) : Int) by simp]
     refine ih (i + 1) T s1 ys (by omega) (by omega) hT hO (fun v => ?_) hge (by omega)
     rw [hmem,← or_assoc,← hm]
     exact ⟨fun h => .inl h,fun h => h.elim id (fun e => e ▸ hin)⟩
    ·obtain ⟨s2,T2,T1,c1,c2,c3,c4⟩ := ins_spec hT hp hin (by omega)
     have hlen : (ys.take j ++ [ls[i]] ++ ys.drop j).length = ys.length + 1 := by
      have := hp.le
      simp only [List.length_append,List.length_take,List.length_drop,List.length_singleton]; omega
     rw [decide_eq_false hin,if_pos (by simp),Option.bind_some,hT.ld,Option.bind_some,letv,c1,Option.bind_some,Option.bind_some,c2,Option.bind_some,set_Set_int_Add.J1,w64_id (n := (i : Int) + 1) (by omega) (by omega),show ((i : Int) + 1) = ((i + 1 : Nat) : Int) by simp,w64_id (by omega) (by omega)]
     have e : (ys.length : Int) - xs.length + 1 = ((ys.take j ++ [ls[i]] ++ ys.drop j).length : Int) - xs.length := by rw [hlen]; omega
     rw [e]
     refine ih (i + 1) T2 s2 _ (by omega) (by omega) c3 (hO.trans c4) (fun v => ?_) (by omega) (by omega)
     rw [ins_mem,hmem,← or_assoc,← hm]
   ·obtain rfl : i = ls.length := by omega
    rw [if_neg (by omega)]
    rw [List.take_length] at hm
    exact ⟨s1,ys,T,rfl,hT,hO,hm,hge,hle⟩
 rw [set_Set_int_Add.f,if_neg (by simp),hsl]
 have := hloop k 0 S s xs (by omega) (Nat.zero_le _) h (Only.refl _ _ _) (fun v => by simp) (Nat.le_refl _) (by omega)
 rw [show ((xs.length : Int) - xs.length) = 0 by omega] at this
 exact this
theorem remove_spec {k p : Nat} {s sl : Sl} {xs ls : List Ky} {S : HS} (hk : 2000 ≤ k) (h : SI p s xs S) (hr : S.rows sl 1 = some (ls.map row1)) (hlt : ∀ q,sl.a = some q → q.1 < S.next ∧ ¬ Own p s q.1) (hc : ls.length ≤ 1000) :
  ∃ s' xs' S',set_Set_int_Remove.f k (some (HA.cell0 p)) sl S = some ((xs.length : Int) - xs'.length,S') ∧ SI p s' xs' S' ∧ Only p s s' S S' ∧ (∀ v,v ∈ xs' ↔ v ∈ xs ∧ v ∉ ls) ∧ xs'.length ≤ xs.length := by
 have hsl : (sl.len : Int) = ls.length := by rw [← rows_len hr]; simp
 have hcnt := h.cnt
 have hloop : ∀ (f i : Nat) (T : HS) (s1 : Sl) (ys : List Ky),ls.length - i < f → i ≤ ls.length → SI p s1 ys T → Only p s s1 S T → (∀ v,v ∈ ys ↔ v ∈ xs ∧ v ∉ ls.take i) → ys.length ≤ xs.length →
   ∃ s' xs' S',set_Set_int_Remove.L0 k f (some (HA.cell0 p)) ((xs.length : Int) - ys.length) sl (ls.length : Int) (i : Int) T = some ((xs.length : Int) - xs'.length,S') ∧ SI p s' xs' S' ∧ Only p s s' S S' ∧ (∀ v,v ∈ xs' ↔ v ∈ xs ∧ v ∉ ls) ∧ xs'.length ≤ xs.length := by
  intro f
  induction f with
  | zero => intro i T s1 ys h; omega
  | succ f ih =>
   intro i T s1 ys hf hi hT hO hm hle
   have hrT : T.rows sl 1 = some (ls.map row1) := rows_keep hr fun q hq => hO.eq q.1 (hlt q hq).1 (hlt q hq).2
   rw [set_Set_int_Remove.L0]
   by_cases hil : i < ls.length
   ·obtain ⟨ad,a1,a2⟩ := ldK_at hrT hil
    obtain ⟨j,b1,hp⟩ := bs_spec (t := ls[i]) hk hT.srt hT.cnt hT.ov.rows
    have hmem : ∀ v,(v ∉ ls.take (i + 1) ↔ v ∉ ls.take i ∧ v ≠ ls[i]) := fun v => by rw [List.take_succ_eq_append_getElem hil,List.mem_append,List.mem_singleton,not_or]
    rw [if_pos (by omega),a1,Option.bind_some,a2,Option.bind_some,Option.bind_some,hT.ld,Option.bind_some,b1,Option.bind_some]
    simp only
    by_cases hin : ls[i] ∈ ys
    ·obtain ⟨hj,he⟩ := hp.here hT.srt hin
     obtain ⟨s2,T2,T1,c1,c2,c3,c4⟩ := del_spec hT hj
     have hlen : (ys.eraseIdx j).length = ys.length - 1 := by rw [List.length_eraseIdx,if_pos hj]
     rw [decide_eq_true hin,if_pos rfl,Option.bind_some,hT.ld,Option.bind_some,w64_id (n := (j : Int) + 1) (by omega) (by omega),show ((j : Int) + 1) = ((j + 1 : Nat) : Int) by simp,c1,Option.bind_some,Option.bind_some,c2,Option.bind_some,set_Set_int_Remove.J1,w64_id (n := (i : Int) + 1) (by omega) (by omega),show ((i : Int) + 1) = ((i + 1 : Nat) : Int) by simp,w64_id (by omega) (by omega)]
     have e : (xs.length : Int) - ys.length + 1 = (xs.length : Int) - ((ys.eraseIdx j).length : Int) := by rw [hlen]; omega
     rw [e]
     refine ih (i + 1) T2 s2 _ (by omega) (by omega) c3 (hO.trans c4) (fun v => ?_) (by omega)
     rw [erase_mem hT.srt hj,hmem,← and_assoc,← hm,he]
    ·rw [decide_eq_false hin,if_neg (by simp),set_Set_int_Remove.J1,w64_id (by omega) (by omega),show ((i : Int) + 1) = ((i + 1 : Nat) : Int) by simp]
     refine ih (i + 1) T s1 ys (by omega) (by omega) hT hO (fun v => ?_) hle
     rw [hmem,← and_assoc,← hm]
     exact ⟨fun h => ⟨h,fun e => hin (e ▸ h)⟩,fun h => h.1⟩
   ·obtain rfl : i = ls.length := by omega
    rw [if_neg (by omega)]
    rw [List.take_length] at hm
    exact ⟨s1,ys,T,rfl,hT,hO,hm,hle⟩
 rw [set_Set_int_Remove.f,if_neg (by simp),hsl]
 have := hloop k 0 S s xs (by omega) (Nat.zero_le _) h (Only.refl _ _ _) (fun v => by simp) (Nat.le_refl _)
 rw [show ((xs.length : Int) - xs.length) = 0 by omega] at this
 exact this
theorem len_spec {p : Nat} {s : Sl} {xs : List Ky} {S : HS} (h : SI p s xs S) : set_Set_int_Len.f (some (HA.cell0 p)) S = some ((xs.length : Int),S) := by
 rw [set_Set_int_Len.f,if_neg (by simp),Option.bind_some,h.ld,Option.bind_some,h.slen]
theorem of_spec {k : Nat} {sl : Sl} {ls : List Ky} {S : HS} (hk : 2000 ≤ k) (hr : Rd S.next S 1 sl (ls.map row1)) (hc : ls.length ≤ 1000) :
  ∃ s' xs' S',set_Of_int.f k sl S = some (some (HA.cell0 S.next),S') ∧ SI S.next s' xs' S' ∧ Fr S.next S S' ∧ (∀ id,Own S.next s' id → S.next ≤ id) ∧ (∀ v,v ∈ xs' ↔ v ∈ ls) ∧ xs'.length ≤ ls.length := by
 have fn : Fr S.next S (S.new (.cells 1 [[Sl.nil.hv]] true)) := Fr.new (Nat.le_refl _) _
 have h0 : SI S.next Sl.nil [] (S.new (.cells 1 [[Sl.nil.hv]] true)) := ⟨new_here _ _,.inl ⟨rfl,rfl,rfl⟩,fun q hq => (by cases hq),Nat.lt_succ_self _,List.Pairwise.nil,by simp⟩
 have nn : (S.new (.cells 1 [[Sl.nil.hv]] true)).next = S.next + 1 := rfl
 obtain ⟨s',xs',S',e,g1,g2,g3,g4,g5⟩ := add_spec hk h0 (hr.frame fn (Nat.le_refl _)).rows (fun q hq => ⟨by have := hr.lt q hq; omega,fun ho => by
  rcases ho with g | ⟨q',g,_⟩
  ·have := hr.lt q hq; omega
  ·cases g⟩) (by simpa using hc)
 rw [set_Of_int.f,letv,e,Option.bind_some]
 refine ⟨s',xs',S',rfl,g1,⟨by have := g2.le; omega,fun id hid => ?_⟩,fun id ho => ?_,fun v => by rw [g3]; simp,by simpa using g5⟩
 ·rw [g2.eq id (by omega) (fun ho => by
   rcases ho with g | ⟨q',g,_⟩
   ·omega
   ·cases g)]
  exact fn.eq id hid
 ·rcases g2.own id ho with g | g
  ·rcases g with g | ⟨q',g,_⟩
   ·omega
   ·cases g
  ·omega
end KI
end Go.Proofs.YtcphapfclncggaaGreatDoor.X
