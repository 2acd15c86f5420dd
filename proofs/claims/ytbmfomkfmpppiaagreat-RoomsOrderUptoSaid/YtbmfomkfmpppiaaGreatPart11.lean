/- Functions of the program, each as a Lean function over the layer HL: a call answers what the Lean function answers, where it answers. Functions of the program, each as a Lean function over the layer HL: a call answers what the Lean function answers, where it answers. Functions of the program, each as a Lean function over the layer HL: a call answers what the Lean function answers, where it answers. -/
import Derived.Test.YtbmfomkfmpppiaaGreatProg
import Derived.Test.YtbmfomkfmpppiaaGreatPart10
namespace Go.Proofs.YtbmfomkfmpppiaaGreat.X
open Go.Proofs.YtbmfomkfmpppiaaGreat.HL
set_option linter.unusedVariables false
set_option linter.unusedSimpArgs false
set_option maxRecDepth 20000
set_option maxHeartbeats 4000000
noncomputable section
variable {D : Dp} {H : Hd} {k : Nat} {Ga Gb Gc Gd Ge Gf Gg Gh Gi Gj Gk Gl Gm Gn Go Gp Gq Gr Gs Gt Gu Gv Gw Gx Gy Gz Ka Kb Kc Kd Ke Kf Kg Kh Ki Kj Kk Kl Km Kn Ko Kp Kq Kr Ks Kt Ku Kv Kw Kx Ky Kz Ma Mb Mc Md Me Mf Mg Mh Mi Mj Mk Ml Mm Mn Mo Mp Mq Mr Ms Mt Mu Mv Mw Mx My Mz : HV}
namespace rooms_Rooms_Join
theorem at_ : FnAt Tryz.prog 12 Tryz.f12 := ⟨Tryz.func12,by kernel_rfl⟩
def d0 := (Tryz.f12.body).getD .skip
def r1 := kR (kA d0)
def r4 := kR (kA (kA (kB d0)))
def r7 := kR (kA (kA (kB (kA (kB d0)))))
def r11 := kR (kA (kB (kB d0)))
def d12 := kB (kB (kB d0))
def r13 := kR (kA d12)
def r16 := kR (kA (kA (kB d12)))
def r19 := kR (kA (kA (kB (kA (kB d12)))))
def d23 := kA (kB (kB d12))
def r24 := kR (kA d23)
def r27 := kR (kA (kA (kB d23)))
def r29 := kR (kA (kB (kA (kB d23))))
def r32 := kR (kA (kA (kB (kB (kA (kB d23))))))
def d36 := kB (kB (kB d12))
def r38 := kR (kA (kA d36))
def r41 := kR (kA (kA (kB (kA d36))))
def r46 := kR (kA (kA (kB d36)))
def r48 := kR (kA (kB (kA (kB d36))))
def r51 := kR (kA (kB (kB d36)))
def r53 := kR (kA (kB (kB (kB d36))))
def c50 : Code := .seq (.region 15 r51 false) (.seq (.region 16 r53 false) .ret)
def c36 : Code := .seq (.seq (.region 11 r38 false) (.cond (.tmp 62) (.seq (.region 12 r41 false) .ret) .skip)) (.seq (.seq (.region 13 r46 false) (.cond (.tmp 64) (.region 14 r48 false) .skip)) c50)
def c22 : Code := .seq (.seq (.region 7 r24 false) (.cond (.tmp 36) (.seq (.region 8 r27 false) (.seq (.region 9 r29 true) (.cond (.tmp 54) (.seq (.region 10 r32 false) .ret) .skip))) .skip)) c36
def c17 : Code := .cond (.tmp 33) (.seq (.region 6 r19 false) .ret) .skip
def c0 : Code := .seq (.region 0 r1 false) (.seq (.seq (.region 1 r4 false) (.cond (.tmp 12) (.seq (.region 2 r7 false) .ret) .skip)) (.seq (.region 3 r11 false) (.seq (.region 4 r13 false) (.seq (.seq (.region 5 r16 false) c17) c22))))
theorem body : Tryz.f12.body = some c0 := by kernel_rfl
section
variable {base : Nat} {W0 : World} {β0 : Bt}
def J2 (D : Dp) (H : Hd) (k : Nat) (y1 : Int) (y8 : (Option HA)) (y9 : Bool) (S : HS) : Option (((Option HA) × Int) × HS) :=
 (Option.bind (room_Room_Add.f D H k y8 y1 (!y9) S) fun p31 =>
 some ((y8,0),p31.2))
theorem J2_snd (hD : DSound Tryz.prog base W0 D) (hH : HSound Tryz.prog base W0 β0 H)  {y1 : Int} {y8 : (Option HA)} {y9 : Bool} {S : HS} {p : ((Option HA) × Int) × HS} (h : J2 D H k y1 y8 y9 S = some p) : HRun Tryz.prog base W0 β0 12 none [.code c50] ⟨[Ga,(.int .i64 y1),Gc,Gd,Ge,Gf,Gg,Gh,(.ptr y8),(.bool y9),Gk,Gl,Gm,Gn,Go,Gp,Gq,Gr,Gs,Gt,Gu,Gv,Gw,Gx,Gy,Gz,Ka,Kb,Kc,Kd,Ke,Kf,Kg,Kh,Ki,Kj,Kk,Kl,Km,Kn,Ko,Kp,Kq,Kr,Ks,Kt,Ku,Kv,Kw,Kx,Ky,Kz,Ma,Mb,Mc,Md,Me,Mf,Mg,Mh,Mi,Mj,Mk,Ml,Mm,Mn,Mo,Mp,Mq,Mr,Ms,Mt,Mu,Mv,Mw,Mx,My,Mz],[]⟩ S (fun v S1 => v = (.tup [(.ptr p.1.1),(.int .i64 p.1.2)]) ∧ S1 = p.2) := by
 unfold J2 at h
 refine qQ rfl (qR rfl rfl (qS 72 rfl (oM · rfl) (qS 73 rfl (oM · rfl) (qS 74 rfl (oM · rfl) (qS 75 rfl (ok_not · (.tmp rfl)) ?_)))))
 try dsimp only [w0,w1,w2,w3]
 obtain ⟨p31,hp31,h⟩ := bindo h
 refine q_call (dst := some 76) rfl (.func _) (.cons (.tmp rfl) (.cons (.tmp rfl) (.cons (.tmp rfl) Evs.nil))) (HInv.static room_Room_Add.at_ room_Room_Add.body (room_Room_Add.snd hD hH hp31)) ?_
 rintro _ _ ⟨rfl,rfl⟩
 refine rE ?_
 try dsimp only [w0,w1,w2,w3]
 refine qQ rfl (qR rfl rfl (qS 77 rfl (oM · rfl) (qS 6 rfl (oA · rfl) (qS 7 rfl (ok_assign · (.int _ _)) (rE ?_)))))
 cases h
 exact q_ret rfl at_.at_ rfl (res2 rfl rfl rfl) ⟨rfl,rfl⟩
def J1 (D : Dp) (H : Hd) (k : Nat) (y0 : (Option HA)) (y1 : Int) (y2 : (List UInt8)) (y8 : (Option HA)) (y9 : Bool) (y10 : (List UInt8)) (S : HS) : Option (((Option HA) × Int) × HS) :=
 (Option.bind (y0) fun p23 =>
 (Option.bind (HS.ldP S (HA.fld p23 16)) fun p24 =>
 (Option.bind (pair_Rel_int_string_Add.f k p24 y1 y10 S) fun p25 =>
 (if (!decide (p25.1 = 0)) = true then
 some ((none,405),p25.2) else
 (if (!y9) = true then
 (Option.bind (y0) fun p28 =>
 (Option.bind (HS.ldP p25.2 (HA.fld p28 15)) fun p29 =>
 (Option.bind (book_Book_room_Room_Put.f D H k p29 y2 y8 p25.2) fun p30 =>
 J2 D H k y1 y8 y9 p30.2))) else
 J2 D H k y1 y8 y9 p25.2)))))
theorem J1_snd (hD : DSound Tryz.prog base W0 D) (hH : HSound Tryz.prog base W0 β0 H)  {y0 : (Option HA)} {y1 : Int} {y2 : (List UInt8)} {y8 : (Option HA)} {y9 : Bool} {y10 : (List UInt8)} {S : HS} {p : ((Option HA) × Int) × HS} (h : J1 D H k y0 y1 y2 y8 y9 y10 S = some p) : HRun Tryz.prog base W0 β0 12 none [.code c36] ⟨[(.ptr y0),(.int .i64 y1),(.str y2),Gd,Ge,Gf,Gg,Gh,(.ptr y8),(.bool y9),(.str y10),Gl,Gm,Gn,Go,Gp,Gq,Gr,Gs,Gt,Gu,Gv,Gw,Gx,Gy,Gz,Ka,Kb,Kc,Kd,Ke,Kf,Kg,Kh,Ki,Kj,Kk,Kl,Km,Kn,Ko,Kp,Kq,Kr,Ks,Kt,Ku,Kv,Kw,Kx,Ky,Kz,Ma,Mb,Mc,Md,Me,Mf,Mg,Mh,Mi,Mj,Mk,Ml,Mm,Mn,Mo,Mp,Mq,Mr,Ms,Mt,Mu,Mv,Mw,Mx,My,Mz],[]⟩ S (fun v S1 => v = (.tup [(.ptr p.1.1),(.int .i64 p.1.2)]) ∧ S1 = p.2) := by
 unfold J1 at h
 obtain ⟨p23,hp23,h⟩ := bindo h
 obtain ⟨p24,hp24,h⟩ := bindo h
 refine qQ rfl (qQ rfl (qR rfl rfl (qS 55 rfl (oM · rfl) (qS 56 rfl (oN · rfl hp23) (qS 57 rfl (oF · fi83_2 (by decide) rfl rfl) (qS 58 rfl (oL · sc79 rfl rfl (ldP_out hp24)) ?_))))))
 try dsimp only [w0,w1,w2,w3]
 obtain ⟨p25,hp25,h⟩ := bindo h
 refine qS 59 rfl (oM · rfl) (qS 60 rfl (oM · rfl) (q_call (dst := some 61) rfl (.func _) (.cons (.tmp rfl) (.cons (.tmp rfl) (.cons (.tmp rfl) Evs.nil))) (HInv.static pair_Rel_int_string_Add.at_ pair_Rel_int_string_Add.body (pair_Rel_int_string_Add.snd  hp25)) ?_))
 rintro _ _ ⟨rfl,rfl⟩
 refine qS 62 rfl (oC · rfl rfl) (rE ?_)
 try dsimp only [w0,w1,w2,w3]
 rcases ifc h with ⟨hc26,h⟩ | ⟨hc26,h⟩
 ·refine q_cond_t rfl (.tmp rfl) hc26 (qQ rfl (qR rfl rfl (qS 6 rfl (ok_assign · (.const fun _ => .ptrNil)) (qS 7 rfl (ok_assign · (.int _ _)) (rE ?_)))))
  cases h
  exact q_ret rfl at_.at_ rfl (res2 rfl rfl rfl) ⟨rfl,rfl⟩
 ·refine q_cond_f rfl (.tmp rfl) (bfalse hc26) (q_skipc rfl (qQ rfl (qQ rfl (qR rfl rfl (qS 63 rfl (oM · rfl) (qS 64 rfl (ok_not · (.tmp rfl)) (rE ?_)))))))
  try dsimp only [w0,w1,w2,w3]
  rcases ifc h with ⟨hc27,h⟩ | ⟨hc27,h⟩
  ·obtain ⟨p28,hp28,h⟩ := bindo h
   obtain ⟨p29,hp29,h⟩ := bindo h
   refine q_cond_t rfl (.tmp rfl) hc27 (qR rfl rfl (qS 65 rfl (oM · rfl) (qS 66 rfl (oN · rfl hp28) (qS 67 rfl (oF · fi83_1 (by decide) rfl rfl) (qS 68 rfl (oL · sc75 rfl rfl (ldP_out hp29)) ?_)))))
   try dsimp only [w0,w1,w2,w3]
   obtain ⟨p30,hp30,h⟩ := bindo h
   refine qS 69 rfl (oM · rfl) (qS 70 rfl (oM · rfl) (q_call (dst := some 71) rfl (.func _) (.cons (.tmp rfl) (.cons (.tmp rfl) (.cons (.tmp rfl) Evs.nil))) (HInv.static book_Book_room_Room_Put.at_ book_Book_room_Room_Put.body (book_Book_room_Room_Put.snd hD hH hp30)) ?_))
   rintro _ _ ⟨rfl,rfl⟩
   refine rE ?_
   try dsimp only [w0,w1,w2,w3]
   exact J2_snd hD hH h
  ·refine q_cond_f rfl (.tmp rfl) (bfalse hc27) (q_skipc rfl ?_)
   try dsimp only [w0,w1,w2,w3]
   exact J2_snd hD hH h
def J0 (D : Dp) (H : Hd) (k : Nat) (y0 : (Option HA)) (y1 : Int) (y2 : (List UInt8)) (y8 : (Option HA)) (y9 : Bool) (y10 : (List UInt8)) (y33 : Bool) (S : HS) : Option (((Option HA) × Int) × HS) :=
 (if y33 = true then
 some ((y8,0),S) else
 (if (!y9) = true then
 (Option.bind (y0) fun p12 =>
 (Option.bind (HS.ldI S .i64 (HA.fld (HA.fld p12 0) 8)) fun p13 =>
 (Option.bind (room_New.f k y2 p13 S) fun p14 =>
 (Option.bind (y0) fun p15 =>
 (Option.bind (HS.ldP p14.2 (HA.fld p15 15)) fun p16 =>
 (Option.bind (book_Book_room_Room_Len.f p16 p14.2) fun p17 =>
 (Option.bind (y0) fun p18 =>
 (Option.bind (HS.ldI p17.2 .i64 (HA.fld (HA.fld p18 0) 7)) fun p19 =>
 (Option.bind (HS.ldI p14.2 .i64 (HA.fld (HA.fld p18 0) 7)) fun p20 =>
 (if p20 = p19 then
 (if p17.1 ≥ p19 then
 some ((none,405),p17.2) else
 J1 D H k y0 y1 y2 p14.1 y9 y10 p17.2) else none)))))))))) else
 J1 D H k y0 y1 y2 y8 y9 y10 S))
theorem J0_snd (hD : DSound Tryz.prog base W0 D) (hH : HSound Tryz.prog base W0 β0 H)  {y0 : (Option HA)} {y1 : Int} {y2 : (List UInt8)} {y8 : (Option HA)} {y9 : Bool} {y10 : (List UInt8)} {y33 : Bool} {S : HS} {p : ((Option HA) × Int) × HS} (h : J0 D H k y0 y1 y2 y8 y9 y10 y33 S = some p) : HRun Tryz.prog base W0 β0 12 none [.code c17,.code c22] ⟨[(.ptr y0),(.int .i64 y1),(.str y2),Gd,Ge,Gf,Gg,Gh,(.ptr y8),(.bool y9),(.str y10),Gl,Gm,Gn,Go,Gp,Gq,Gr,Gs,Gt,Gu,Gv,Gw,Gx,Gy,Gz,Ka,Kb,Kc,Kd,Ke,Kf,Kg,(.bool y33),Ki,Kj,Kk,Kl,Km,Kn,Ko,Kp,Kq,Kr,Ks,Kt,Ku,Kv,Kw,Kx,Ky,Kz,Ma,Mb,Mc,Md,Me,Mf,Mg,Mh,Mi,Mj,Mk,Ml,Mm,Mn,Mo,Mp,Mq,Mr,Ms,Mt,Mu,Mv,Mw,Mx,My,Mz],[]⟩ S (fun v S1 => v = (.tup [(.ptr p.1.1),(.int .i64 p.1.2)]) ∧ S1 = p.2) := by
 unfold J0 at h
 rcases ifc h with ⟨hc10,h⟩ | ⟨hc10,h⟩
 ·refine q_cond_t rfl (.tmp rfl) hc10 (qQ rfl (qR rfl rfl (qS 34 rfl (oM · rfl) (qS 6 rfl (oA · rfl) (qS 7 rfl (ok_assign · (.int _ _)) (rE ?_))))))
  cases h
  exact q_ret rfl at_.at_ rfl (res2 rfl rfl rfl) ⟨rfl,rfl⟩
 ·refine q_cond_f rfl (.tmp rfl) (bfalse hc10) (q_skipc rfl (qQ rfl (qQ rfl (qR rfl rfl (qS 35 rfl (oM · rfl) (qS 36 rfl (ok_not · (.tmp rfl)) (rE ?_)))))))
  try dsimp only [w0,w1,w2,w3]
  rcases ifc h with ⟨hc11,h⟩ | ⟨hc11,h⟩
  ·obtain ⟨p12,hp12,h⟩ := bindo h
   refine q_cond_t rfl (.tmp rfl) hc11 (qQ rfl (qR rfl rfl (qS 37 rfl (oM · rfl) (qS 38 rfl (oM · rfl) (qS 39 rfl (oN · rfl hp12) (qS 40 rfl (oF · fi83_0 (by decide) rfl rfl) ?_))))))
   try dsimp only [w0,w1,w2,w3]
   obtain ⟨p13,hp13,h⟩ := bindo h
   obtain ⟨p14,hp14,h⟩ := bindo h
   refine qS 41 rfl (oF · fi28_8 (by decide) rfl rfl) (qS 42 rfl (oL · sc3 rfl rfl (ldI_out hp13)) (q_call (dst := some 43) rfl (.func _) (.cons (.tmp rfl) (.cons (.tmp rfl) Evs.nil)) (HInv.static room_New.at_ room_New.body (room_New.snd  hp14)) ?_))
   rintro _ _ ⟨rfl,rfl⟩
   refine qS 8 rfl (oA · rfl) (rE ?_)
   try dsimp only [w0,w1,w2,w3]
   refine qQ rfl ?_
   refine x_start (cls := [0,0,0,1,2,0,0,0,0,3,0]) (rk := [0,1,2,3,4,5,6,7,8,9,10]) rfl (by kernel_rfl) ?_
   refine xf 44 [0] rfl (oM · rfl) ?_
   obtain ⟨p15,hp15,h⟩ := bindo h
   refine xf 45 [44] rfl (oN · rfl hp15) ?_
   refine xf 46 [45] rfl (oF · fi83_1 (by decide) rfl rfl) ?_
   obtain ⟨p16,hp16,h⟩ := bindo h
   refine xr 47 [46] rfl (oL · sc75 rfl rfl (ldP_out hp16)) ?_
   try dsimp only [w0,w1,w2,w3]
   obtain ⟨p17,hp17,h⟩ := bindo h
   refine x_goE (e_call (dst := some 48) (ts := [47]) rfl (by kernel_rfl) (.func _) (.cons (.tmp rfl) Evs.nil) (HInv.static book_Book_room_Room_Len.at_ book_Book_room_Room_Len.body (book_Book_room_Room_Len.snd  hp17))) rfl trivial ?_
   refine xf 49 [0] rfl (oM · rfl) ?_
   obtain ⟨p18,hp18,h⟩ := bindo h
   refine xf 50 [49] rfl (oN · rfl hp18) ?_
   refine xf 51 [50] rfl (oF · fi83_0 (by decide) rfl rfl) ?_
   try dsimp only [w0,w1,w2,w3]
   refine xf 52 [51] rfl (oF · fi28_7 (by decide) rfl rfl) ?_
   obtain ⟨p19,hp19,h⟩ := bindo h
   obtain ⟨p20,hp20,h⟩ := bindo h
   obtain ⟨hg21,h⟩ := gd h
   refine x_late (r_op (dst := some 53) (ts := [52]) rfl (by intro _ _ h; cases h) (by kernel_rfl) (fun _ ho => ok_load_s ho sc3 (.tmp rfl) rfl (ldI_out hp19))) rfl ⟨.inr (l_op (dst := some 53) (ts := [52]) rfl (by intro _ _ h; cases h) (by kernel_rfl) (fun _ ho => ok_load_s ho sc3 (.tmp rfl) rfl (ldI_out (hp20.trans (congrArg some hg21))))),trivial⟩ ?_
   refine xf 54 [48,53] rfl (oB · rfl rfl rfl) ?_
   refine x_rest rfl ?_
   refine rE ?_
   try dsimp only [w0,w1,w2,w3]
   rcases ifc h with ⟨hc22,h⟩ | ⟨hc22,h⟩
   ·refine q_cond_t rfl (.tmp rfl) (decide_eq_true hc22) (qQ rfl (qR rfl rfl (qS 6 rfl (ok_assign · (.const fun _ => .ptrNil)) (qS 7 rfl (ok_assign · (.int _ _)) (rE ?_)))))
    cases h
    exact q_ret rfl at_.at_ rfl (res2 rfl rfl rfl) ⟨rfl,rfl⟩
   ·refine q_cond_f rfl (.tmp rfl) (decide_eq_false hc22) (q_skipc rfl ?_)
    try dsimp only [w0,w1,w2,w3]
    exact J1_snd hD hH h
  ·refine q_cond_f rfl (.tmp rfl) (bfalse hc11) (q_skipc rfl ?_)
   try dsimp only [w0,w1,w2,w3]
   exact J1_snd hD hH h
def f (D : Dp) (H : Hd) (k : Nat) (x0 : (Option HA)) (x1 : Int) (x2 : (List UInt8)) (S : HS) : Option (((Option HA) × Int) × HS) :=
 (if (Option.isNone x0) = true then
 some ((none,405),S) else
 (Option.bind (x0) fun p2 =>
 (Option.bind (HS.ldP S (HA.fld p2 15)) fun p3 =>
 (Option.bind (book_Book_room_Room_Get.f D H k p3 x2 S) fun p4 =>
 (Option.bind (fold_Text.f k x2 p4.2) fun p5 =>
 (if p4.1.2 = true then
 (Option.bind (x0) fun p7 =>
 (Option.bind (HS.ldP p5.2 (HA.fld p7 16)) fun p8 =>
 (Option.bind (pair_Rel_int_string_Has.f k p8 x1 p5.1 p5.2) fun p9 =>
 J0 D H k x0 x1 x2 p4.1.1 p4.1.2 p5.1 p9.1 p9.2))) else
 J0 D H k x0 x1 x2 p4.1.1 p4.1.2 p5.1 false p5.2))))))
theorem snd {x0 : (Option HA)} {x1 : Int} {x2 : (List UInt8)} {S : HS} (hD : DSound Tryz.prog base W0 D) (hH : HSound Tryz.prog base W0 β0 H)  {p : ((Option HA) × Int) × HS} (h : f D H k x0 x1 x2 S = some p) : HCall Tryz.prog base W0 β0 12 [(.ptr x0),(.int .i64 x1),(.str x2)] S (fun v S1 => v = (.tup [(.ptr p.1.1),(.int .i64 p.1.2)]) ∧ S1 = p.2) := by
 unfold f at h
 refine HCall.of_run at_.at_ body ?_
 show HRun Tryz.prog base W0 β0 12 none [.code c0] ⟨[(.ptr x0),(.int .i64 x1),(.str x2),τ,τ,τ,τ,τ,τ,τ,τ,τ,τ,τ,τ,τ,τ,τ,τ,τ,τ,τ,τ,τ,τ,τ,τ,τ,τ,τ,τ,τ,τ,τ,τ,τ,τ,τ,τ,τ,τ,τ,τ,τ,τ,τ,τ,τ,τ,τ,τ,τ,τ,τ,τ,τ,τ,τ,τ,τ,τ,τ,τ,τ,τ,τ,τ,τ,τ,τ,τ,τ,τ,τ,τ,τ,τ,τ],[]⟩ S _
 refine qQ rfl (qR rfl rfl (qS 6 rfl (ok_assign · (.const fun _ => .ptrNil)) (qS 7 rfl (ok_assign · (.int _ _)) (rE ?_))))
 try dsimp only [w0,w1,w2,w3]
 refine qQ rfl (qQ rfl (qR rfl rfl (qS 11 rfl (oM · rfl) (qS 12 rfl (ok_nil_ptr · tu25 (.tmp rfl) (.inl ⟨rfl,rfl⟩)) (rE ?_)))))
 try dsimp only [w0,w1,w2,w3]
 rcases ifc h with ⟨hc1,h⟩ | ⟨hc1,h⟩
 ·refine q_cond_t rfl (.tmp rfl) hc1 (qQ rfl (qR rfl rfl (qS 6 rfl (ok_assign · (.const fun _ => .ptrNil)) (qS 7 rfl (ok_assign · (.int _ _)) (rE ?_)))))
  cases h
  exact q_ret rfl at_.at_ rfl (res2 rfl rfl rfl) ⟨rfl,rfl⟩
 ·obtain ⟨p2,hp2,h⟩ := bindo h
  obtain ⟨p3,hp3,h⟩ := bindo h
  refine q_cond_f rfl (.tmp rfl) (bfalse hc1) (q_skipc rfl (qQ rfl (qR rfl rfl (qS 14 rfl (oM · rfl) (qS 15 rfl (oN · rfl hp2) (qS 16 rfl (oF · fi83_1 (by decide) rfl rfl) (qS 17 rfl (oL · sc75 rfl rfl (ldP_out hp3)) ?_)))))))
  try dsimp only [w0,w1,w2,w3]
  obtain ⟨p4,hp4,h⟩ := bindo h
  refine qS 18 rfl (oM · rfl) (q_call (dst := some 19) rfl (.func _) (.cons (.tmp rfl) (.cons (.tmp rfl) Evs.nil)) (HInv.static book_Book_room_Room_Get.at_ book_Book_room_Room_Get.body (book_Book_room_Room_Get.snd hD hH hp4)) ?_)
  rintro _ _ ⟨rfl,rfl⟩
  refine qS 13 rfl (oM · rfl) (qS 20 rfl (ok_extract · (.tmp rfl) rfl) ?_)
  try dsimp only [w0,w1,w2,w3]
  refine qS 21 rfl (ok_extract · (.tmp rfl) rfl) (qS 8 rfl (oA · rfl) (qS 9 rfl (oA · rfl) (rE ?_)))
  try dsimp only [w0,w1,w2,w3]
  obtain ⟨p5,hp5,h⟩ := bindo h
  refine qQ rfl (qR rfl rfl (qS 22 rfl (oM · rfl) (q_call (dst := some 23) rfl (.func _) (.cons (.tmp rfl) Evs.nil) (HInv.static fold_Text.at_ fold_Text.body (fold_Text.snd  hp5)) ?_)))
  rintro _ _ ⟨rfl,rfl⟩
  refine qS 10 rfl (oA · rfl) (rE ?_)
  try dsimp only [w0,w1,w2,w3]
  refine qQ rfl (qQ rfl (qR rfl rfl (qS 24 rfl (oM · rfl) (qS 25 rfl (oM · rfl) ?_))))
  rcases ifc h with ⟨hc6,h⟩ | ⟨hc6,h⟩
  ·obtain ⟨p7,hp7,h⟩ := bindo h
   refine qG 25 26 rfl hc6 (oM · rfl) (qG 25 27 rfl hc6 (oN · rfl hp7) ?_)
   try dsimp only [w0,w1,w2,w3]
   obtain ⟨p8,hp8,h⟩ := bindo h
   refine qG 25 28 rfl hc6 (oF · fi83_2 (by decide) rfl rfl) (qG 25 29 rfl hc6 (oL · sc79 rfl rfl (ldP_out hp8)) (qG 25 30 rfl hc6 (oM · rfl) (qG 25 31 rfl hc6 (oM · rfl) ?_)))
   try dsimp only [w0,w1,w2,w3]
   obtain ⟨p9,hp9,h⟩ := bindo h
   refine q_call_g (t := 25) (dst := some 32) rfl rfl rfl hc6 (.func _) (.cons (.tmp rfl) (.cons (.tmp rfl) (.cons (.tmp rfl) Evs.nil))) (HInv.static pair_Rel_int_string_Has.at_ pair_Rel_int_string_Has.body (pair_Rel_int_string_Has.snd  hp9)) ?_
   rintro _ _ ⟨rfl,rfl⟩
   refine qS 33 rfl (ok_pick_tt · (.tmp rfl) hc6 (.tmp rfl)) (rE ?_)
   try dsimp only [w0,w1,w2,w3]
   exact J0_snd hD hH h
  ·refine q_skip (dst := some 26) (t := 25) rfl rfl rfl (bfalse hc6) (q_skip (dst := some 27) (t := 25) rfl rfl rfl (bfalse hc6) ?_)
   try dsimp only [w0,w1,w2,w3]
   refine q_skip (dst := some 28) (t := 25) rfl rfl rfl (bfalse hc6) (q_skip (dst := some 29) (t := 25) rfl rfl rfl (bfalse hc6) (q_skip (dst := some 30) (t := 25) rfl rfl rfl (bfalse hc6) (q_skip (dst := some 31) (t := 25) rfl rfl rfl (bfalse hc6) ?_)))
   try dsimp only [w0,w1,w2,w3]
   refine q_skip (dst := some 32) (t := 25) rfl rfl rfl (bfalse hc6) (qS 33 rfl (ok_pick_ff · (.tmp rfl) (bfalse hc6) (.bool _)) (rE ?_))
   try dsimp only [w0,w1,w2,w3]
   exact J0_snd hD hH h
end
end rooms_Rooms_Join
namespace pair_Rel_int_string_Of_1
theorem at_ : FnAt Tryz.prog 93 Tryz.f93 := ⟨Tryz.func93,by kernel_rfl⟩
def c0 : Code := .skip
theorem body : Tryz.f93.body = some c0 := by kernel_rfl
section
variable {base : Nat} {W0 : World} {β0 : Bt}
def f (x0 : HV) : Option (Unit) :=
 some ()
theorem snd {x0 : HV} {S : HS}  {p : Unit} (h : f x0 = some p) : HCall Tryz.prog base W0 β0 93 [x0] S (fun v S1 => v = (.tup []) ∧ S1 = S) := by
 unfold f at h
 refine HCall.of_run at_.at_ body ?_
 show HRun Tryz.prog base W0 β0 93 none [.code c0] ⟨[x0,τ],[]⟩ S _
 cases h
 exact q_skipc rfl (q_end at_.at_ rfl (res0 rfl) ⟨rfl,rfl⟩)
end
end pair_Rel_int_string_Of_1
namespace slices_Clone_string_string
theorem at_ : FnAt Tryz.prog 131 Tryz.f131 := ⟨Tryz.func131,by kernel_rfl⟩
def d0 := (Tryz.f131.body).getD .skip
def r1 := kR (kA d0)
def r4 := kR (kA (kA (kB d0)))
def r7 := kR (kA (kA (kB (kA (kB d0)))))
def r11 := kR (kA (kB (kB d0)))
def c0 : Code := .seq (.region 0 r1 false) (.seq (.seq (.region 1 r4 false) (.cond (.tmp 4) (.seq (.region 2 r7 false) .ret) .skip)) (.seq (.region 3 r11 false) .ret))
theorem body : Tryz.f131.body = some c0 := by kernel_rfl
section
variable {base : Nat} {W0 : World} {β0 : Bt}
def f (x0 : Sl) (S : HS) : Option ((Sl) × HS) :=
 (if (Option.isNone (Sl.a x0)) = true then
 some (Sl.nil,S) else
 (letv (HS.lit S [] 1) fun p2 =>
 (Option.bind (HS.rows (p2.2) x0 1) fun p3 =>
 (Option.bind (HS.app (p2.2) (p2.1) p3 1) fun p4 =>
 some ((p4.1),(p4.2))))))
theorem snd {x0 : Sl} {S : HS}  {p : (Sl) × HS} (h : f x0 S = some p) : HCall Tryz.prog base W0 β0 131 [(Sl.hv x0)] S (fun v S1 => v = (Sl.hv p.1) ∧ S1 = p.2) := by
 unfold f at h
 refine HCall.of_run at_.at_ body ?_
 show HRun Tryz.prog base W0 β0 131 none [.code c0] ⟨[(Sl.hv x0),τ,τ,τ,τ,τ,τ,τ],[]⟩ S _
 refine qQ rfl (qR rfl rfl (qS 2 rfl (ok_assign · (.const fun _ => .slNil none)) (rE ?_)))
 try dsimp only [w0,w1,w2,w3]
 refine qQ rfl (qQ rfl (qR rfl rfl (qS 3 rfl (oM · rfl) (qS 4 rfl (ok_nil_sl · tu57 (.tmp rfl) (.inl ⟨rfl,rfl⟩)) (rE ?_)))))
 try dsimp only [w0,w1,w2,w3]
 rcases ifc h with ⟨hc1,h⟩ | ⟨hc1,h⟩
 ·refine q_cond_t rfl (.tmp rfl) hc1 (qQ rfl (qR rfl rfl (qS 2 rfl (ok_assign · (.const fun _ => .slNil none)) (rE ?_))))
  cases h
  exact q_ret rfl at_.at_ rfl (res1 rfl rfl) ⟨rfl,rfl⟩
 ·obtain ⟨p2,hp2,h⟩ := leto h
  obtain ⟨p3,hp3,h⟩ := bindo h
  obtain ⟨p4,hp4,h⟩ := bindo h
  refine q_cond_f rfl (.tmp rfl) (bfalse hc1) (q_skipc rfl (qQ rfl (qR rfl rfl (qS 5 rfl (ok_buildSlice_s (xs := []) el57 · rfl rfl (by decide) Evs.nil rfl rfl hp2) (qS 6 rfl (oM · rfl) (qS 7 rfl (ok_append (s := (p2.1)) (s1 := x0) el57 · rfl rfl ⟨_,tu57⟩ (.tmp rfl) (.tmp rfl) hp3 hp4) (qS 2 rfl (oA · rfl) (rE ?_))))))))
  cases h
  exact q_ret rfl at_.at_ rfl (res1 rfl rfl) ⟨rfl,rfl⟩
end
end slices_Clone_string_string
namespace set_Set_string_List
theorem at_ : FnAt Tryz.prog 121 Tryz.f121 := ⟨Tryz.func121,by kernel_rfl⟩
def d0 := (Tryz.f121.body).getD .skip
def r1 := kR (kA d0)
def r4 := kR (kA (kA (kB d0)))
def r7 := kR (kA (kA (kB (kA (kB d0)))))
def r11 := kR (kA (kB (kB d0)))
def c0 : Code := .seq (.region 0 r1 false) (.seq (.seq (.region 1 r4 false) (.cond (.tmp 4) (.seq (.region 2 r7 false) .ret) .skip)) (.seq (.region 3 r11 false) .ret))
theorem body : Tryz.f121.body = some c0 := by kernel_rfl
section
variable {base : Nat} {W0 : World} {β0 : Bt}
def f (x0 : (Option HA)) (S : HS) : Option ((Sl) × HS) :=
 (if (Option.isNone x0) = true then
 some (Sl.nil,S) else
 (Option.bind (x0) fun p2 =>
 (Option.bind (HS.ldSl S (HA.fld p2 0)) fun p3 =>
 (Option.bind (slices_Clone_string_string.f p3 S) fun p4 =>
 some (p4.1,p4.2)))))
theorem snd {x0 : (Option HA)} {S : HS}  {p : (Sl) × HS} (h : f x0 S = some p) : HCall Tryz.prog base W0 β0 121 [(.ptr x0)] S (fun v S1 => v = (Sl.hv p.1) ∧ S1 = p.2) := by
 unfold f at h
 refine HCall.of_run at_.at_ body ?_
 show HRun Tryz.prog base W0 β0 121 none [.code c0] ⟨[(.ptr x0),τ,τ,τ,τ,τ,τ,τ,τ,τ],[]⟩ S _
 refine qQ rfl (qR rfl rfl (qS 2 rfl (ok_assign · (.const fun _ => .slNil none)) (rE ?_)))
 try dsimp only [w0,w1,w2,w3]
 refine qQ rfl (qQ rfl (qR rfl rfl (qS 3 rfl (oM · rfl) (qS 4 rfl (ok_nil_ptr · tu134 (.tmp rfl) (.inl ⟨rfl,rfl⟩)) (rE ?_)))))
 try dsimp only [w0,w1,w2,w3]
 rcases ifc h with ⟨hc1,h⟩ | ⟨hc1,h⟩
 ·refine q_cond_t rfl (.tmp rfl) hc1 (qQ rfl (qR rfl rfl (qS 2 rfl (ok_assign · (.const fun _ => .slNil none)) (rE ?_))))
  cases h
  exact q_ret rfl at_.at_ rfl (res1 rfl rfl) ⟨rfl,rfl⟩
 ·obtain ⟨p2,hp2,h⟩ := bindo h
  obtain ⟨p3,hp3,h⟩ := bindo h
  refine q_cond_f rfl (.tmp rfl) (bfalse hc1) (q_skipc rfl (qQ rfl (qR rfl rfl (qS 5 rfl (oM · rfl) (qS 6 rfl (oN · rfl hp2) (qS 7 rfl (oF · fi159_0 (by decide) rfl rfl) (qS 8 rfl (oL · sc57 rfl rfl (ldSl_out hp3)) ?_)))))))
  try dsimp only [w0,w1,w2,w3]
  obtain ⟨p4,hp4,h⟩ := bindo h
  refine q_call (dst := some 9) rfl (.func _) (.cons (.tmp rfl) Evs.nil) (HInv.static slices_Clone_string_string.at_ slices_Clone_string_string.body (slices_Clone_string_string.snd  hp4)) ?_
  rintro _ _ ⟨rfl,rfl⟩
  refine qS 2 rfl (oA · rfl) (rE ?_)
  cases h
  exact q_ret rfl at_.at_ rfl (res1 rfl rfl) ⟨rfl,rfl⟩
end
end set_Set_string_List
namespace slices_Values_string_string_1
theorem at_ : FnAt Tryz.prog 130 Tryz.f130 := ⟨Tryz.func130,by kernel_rfl⟩
def d0 := (Tryz.f130.body).getD .skip
def r1 := kR (kA d0)
def d4 := kA (kA (kB d0))
def r5 := kR (kA d4)
def r13 := kR (kA (kA (kA (kB (kB d4)))))
def r15 := kR (kA (kB (kA (kA (kB (kB d4))))))
def r19 := kR (kB (kB (kB d4)))
def c4 : Code := .seq (.region 1 r5 false) (.seq (.cond (.tmp 8) .skip (.exit 0)) (.seq (.block 1 (.seq (.region 2 r13 false) (.seq (.region 3 r15 false) (.cond (.tmp 14) .ret .skip)))) (.region 4 r19 false)))
def c0 : Code := .seq (.region 0 r1 false) (.block 0 (.loop c4))
theorem body : Tryz.f130.body = some c0 := by kernel_rfl
section
variable {base : Nat} {W0 : World} {β0 : Bt}
def L0 (D : Dp) (H : Hd) (k : Nat) : Nat → HV → Sl → Int → Int → HS → Option ((Unit) × HS)
 | 0,_,_,_,_,_ => none
 | n + 1,y0,y5,y6,y7,S =>
  (if y7 < y6 then
  (Option.bind (HS.idx S y5 y7 1) fun p4 =>
  (Option.bind (HS.ldS S p4) fun p5 =>
  (Option.bind (D H y0 [(.str p5)] S) fun p6 =>
  (Option.bind (dB p6.1) fun p7 =>
  (if (!p7) = true then
  some ((),p6.2) else
  (L0 D H k n) y0 y5 y6 (w64 (y7 + 1)) p6.2))))) else
  some ((),S))
theorem L0_snd (hD : DSound Tryz.prog base W0 D) (hH : HSound Tryz.prog base W0 β0 H)  : ∀ {n : Nat} ⦃y0 : HV⦄ ⦃y5 : Sl⦄ ⦃y6 : Int⦄ ⦃y7 : Int⦄ ⦃S : HS⦄ ⦃p : (Unit) × HS⦄ ⦃Gb Gc Gd Ge Gi Gj Gk Gl Gm Gn Go Gp : HV⦄,L0 D H k n y0 y5 y6 y7 S = some p → HRun Tryz.prog base W0 β0 130 none [.inLoop c4,.inBlock 0] ⟨[y0,Gb,Gc,Gd,Ge,(Sl.hv y5),(.int .i64 y6),(.int .i64 y7),Gi,Gj,Gk,Gl,Gm,Gn,Go,Gp],[]⟩ S (fun v S1 => v = (.tup []) ∧ S1 = p.2) := by
 intro n
 induction n with
 | zero => intro _ _ _ _ _ _ _ _ _ _ _ _ _ _ _ _ _ _ h; cases h
 | succ n ih =>
  intro y0 y5 y6 y7 S p Gb Gc Gd Ge Gi Gj Gk Gl Gm Gn Go Gp h
  simp only [L0] at h
  refine hr_inLoop (qQ rfl (qR rfl rfl (qS 8 rfl (oB · rfl rfl rfl) (rE ?_))))
  try dsimp only [w0,w1,w2,w3]
  refine qQ rfl ?_
  rcases ifc h with ⟨hc3,h⟩ | ⟨hc3,h⟩
  ·obtain ⟨p4,hp4,h⟩ := bindo h
   obtain ⟨p5,hp5,h⟩ := bindo h
   refine q_cond_t rfl (.tmp rfl) (decide_eq_true hc3) (q_skipc rfl (qQ rfl (q_block rfl (qQ rfl (qR rfl rfl (qS 9 rfl (oX (s := y5) · tu57 sz9 rfl rfl hp4) (qS 10 rfl (oL · sc9 rfl rfl (ldS_out hp5)) (qS 4 rfl (oA · rfl) (rE ?_)))))))))
   try dsimp only [w0,w1,w2,w3]
   obtain ⟨p6,hp6,h⟩ := bindo h
   obtain ⟨p7,hp7,h⟩ := bindo h
   refine qQ rfl (qR rfl rfl (qS 11 rfl (oM · rfl) (qS 12 rfl (oM · rfl) (q_call (dst := some 13) rfl (.tmp rfl) (.cons (.tmp rfl) Evs.nil) (hD _ _ hH _ _ _ _ _ hp6) ?_))))
   rintro _ _ ⟨rfl,rfl⟩
   rw [dB_out hp7]
   refine qS 14 rfl (ok_not · (.tmp rfl)) (rE ?_)
   try dsimp only [w0,w1,w2,w3]
   rcases ifc h with ⟨hc8,h⟩ | ⟨hc8,h⟩
   ·cases h
    exact q_cond_t rfl (.tmp rfl) hc8 (q_ret rfl at_.at_ rfl (res0 rfl) ⟨rfl,rfl⟩)
   ·refine q_cond_f rfl (.tmp rfl) (bfalse hc8) (q_skipc rfl (hr_inBlock (qR rfl rfl (qS 15 rfl (oC · rfl rfl) (qS 7 rfl (oM · rfl) (rE ?_))))))
    try dsimp only [w0,w1,w2,w3]
    exact ih h
  ·cases h
   exact q_cond_f rfl (.tmp rfl) (decide_eq_false hc3) (q_exit rfl rfl (q_end at_.at_ rfl (res0 rfl) ⟨rfl,rfl⟩))
def f (D : Dp) (H : Hd) (k : Nat) (x0 : HV) (x1 : (Option HA)) (S : HS) : Option ((Unit) × HS) :=
 (Option.bind (x1) fun p1 =>
 (Option.bind (HS.ldSl S p1) fun p2 =>
 L0 D H k k x0 p2 (Sl.len p2 : Int) 0 S))
theorem snd {x0 : HV} {x1 : (Option HA)} {S : HS} (hD : DSound Tryz.prog base W0 D) (hH : HSound Tryz.prog base W0 β0 H)  {p : (Unit) × HS} (h : f D H k x0 x1 S = some p) : HCall Tryz.prog base W0 β0 130 [x0,(.ptr x1)] S (fun v S1 => v = (.tup []) ∧ S1 = p.2) := by
 unfold f at h
 refine HCall.of_run at_.at_ body ?_
 show HRun Tryz.prog base W0 β0 130 none [.code c0] ⟨[x0,(.ptr x1),τ,τ,τ,τ,τ,τ,τ,τ,τ,τ,τ,τ,τ,τ],[]⟩ S _
 obtain ⟨p1,hp1,h⟩ := bindo h
 obtain ⟨p2,hp2,h⟩ := bindo h
 refine qQ rfl (qR rfl rfl (qS 5 rfl (oL · sc57 rfl hp1 (ldSl_out hp2)) (qS 6 rfl (ok_len_sl (q := Sl.a p2) (n := Sl.len p2) (z := Sl.cap p2) · rfl tu57 (.tmp rfl)) (qS 7 rfl (ok_move · (.int _ _)) (rE ?_)))))
 try dsimp only [w0,w1,w2,w3]
 refine q_block rfl (q_loop rfl ?_)
 try dsimp only [w0,w1,w2,w3]
 exact L0_snd hD hH h
end
end slices_Values_string_string_1
namespace slices_Values_string_string
theorem at_ : FnAt Tryz.prog 120 Tryz.f120 := ⟨Tryz.func120,by kernel_rfl⟩
def d0 := (Tryz.f120.body).getD .skip
def r1 := kR (kA d0)
def r3 := kR (kA (kB d0))
def c0 : Code := .seq (.region 0 r1 false) (.seq (.region 1 r3 false) .ret)
theorem body : Tryz.f120.body = some c0 := by kernel_rfl
section
variable {base : Nat} {W0 : World} {β0 : Bt}
def f (x0 : Sl) (S : HS) : Option ((HV) × HS) :=
 (letv (HS.new S (.cells 1 [[(Sl.hv x0)]] true)) fun p1 =>
 some ((HV.fn (.func 130) [] [(.ptr (some (HA.cell0 S.next)))]),p1))
theorem snd {x0 : Sl} {S : HS}  {p : (HV) × HS} (h : f x0 S = some p) : HCall Tryz.prog base W0 β0 120 [(Sl.hv x0)] S (fun v S1 => v = p.1 ∧ S1 = p.2) := by
 unfold f at h
 refine HCall.of_run at_.at_ body ?_
 show HRun Tryz.prog base W0 β0 120 none [.code c0] ⟨[(Sl.hv x0),τ,τ,τ],[]⟩ S _
 obtain ⟨p1,hp1,h⟩ := leto h
 refine qQ rfl (qR rfl rfl (qS 1 rfl (ok_box_e · (.tmp rfl) (Nat.zero_lt_succ _) rfl hp1) (qS 2 rfl (ok_assign · (.const fun _ => .nilFn)) (rE ?_))))
 try dsimp only [w0,w1,w2,w3]
 refine qQ rfl (qR rfl rfl (qS 3 rfl (ok_makeFunc · Evs.nil (.cons (.tmp rfl) Evs.nil)) (qS 2 rfl (oA · rfl) (rE ?_))))
 cases h
 exact q_ret rfl at_.at_ rfl (res1 rfl rfl) ⟨rfl,rfl⟩
end
end slices_Values_string_string
namespace set_Set_string_All
theorem at_ : FnAt Tryz.prog 94 Tryz.f94 := ⟨Tryz.func94,by kernel_rfl⟩
def d0 := (Tryz.f94.body).getD .skip
def r1 := kR (kA d0)
def r3 := kR (kA (kB d0))
def c0 : Code := .seq (.region 0 r1 false) (.seq (.region 1 r3 false) .ret)
theorem body : Tryz.f94.body = some c0 := by kernel_rfl
section
variable {base : Nat} {W0 : World} {β0 : Bt}
def f (x0 : (Option HA)) (S : HS) : Option ((HV) × HS) :=
 (Option.bind (set_Set_string_List.f x0 S) fun p1 =>
 (Option.bind (slices_Values_string_string.f p1.1 p1.2) fun p2 =>
 some (p2.1,p2.2)))
theorem snd {x0 : (Option HA)} {S : HS}  {p : (HV) × HS} (h : f x0 S = some p) : HCall Tryz.prog base W0 β0 94 [(.ptr x0)] S (fun v S1 => v = p.1 ∧ S1 = p.2) := by
 unfold f at h
 refine HCall.of_run at_.at_ body ?_
 show HRun Tryz.prog base W0 β0 94 none [.code c0] ⟨[(.ptr x0),τ,τ,τ,τ,τ],[]⟩ S _
 refine qQ rfl (qR rfl rfl (qS 2 rfl (ok_assign · (.const fun _ => .nilFn)) (rE ?_)))
 try dsimp only [w0,w1,w2,w3]
 obtain ⟨p1,hp1,h⟩ := bindo h
 refine qQ rfl (qR rfl rfl (qS 3 rfl (oM · rfl) (q_call (dst := some 4) rfl (.func _) (.cons (.tmp rfl) Evs.nil) (HInv.static set_Set_string_List.at_ set_Set_string_List.body (set_Set_string_List.snd  hp1)) ?_)))
 rintro _ _ ⟨rfl,rfl⟩
 obtain ⟨p2,hp2,h⟩ := bindo h
 refine q_call (dst := some 5) rfl (.func _) (.cons (.tmp rfl) Evs.nil) (HInv.static slices_Values_string_string.at_ slices_Values_string_string.body (slices_Values_string_string.snd  hp2)) ?_
 rintro _ _ ⟨rfl,rfl⟩
 refine qS 2 rfl (oA · rfl) (rE ?_)
 cases h
 exact q_ret rfl at_.at_ rfl (res1 rfl rfl) ⟨rfl,rfl⟩
end
end set_Set_string_All
namespace pair_Rel_int_string_Of
theorem at_ : FnAt Tryz.prog 62 Tryz.f62 := ⟨Tryz.func62,by kernel_rfl⟩
def d0 := (Tryz.f62.body).getD .skip
def r1 := kR (kA d0)
def r4 := kR (kA (kA (kB d0)))
def r7 := kR (kA (kA (kB (kA (kB d0)))))
def r11 := kR (kA (kB (kB d0)))
def c0 : Code := .seq (.region 0 r1 false) (.seq (.seq (.region 1 r4 false) (.cond (.tmp 6) (.seq (.region 2 r7 false) .ret) .skip)) (.seq (.region 3 r11 false) .ret))
theorem body : Tryz.f62.body = some c0 := by kernel_rfl
section
variable {base : Nat} {W0 : World} {β0 : Bt}
def f (x0 : (Option HA)) (x1 : Int) (S : HS) : Option ((HV) × HS) :=
 (if (Option.isNone x0) = true then
 some ((HV.fn (.func 93) [] []),S) else
 (Option.bind (x0) fun p2 =>
 (Option.bind (HS.ldM S (HA.fld p2 2)) fun p3 =>
 (Option.bind (HS.look S p3 (.int .i64 x1)) fun p4 =>
 (Option.bind (dP (Option.getD p4 (.ptr none))) fun p5 =>
 (Option.bind (set_Set_string_All.f p5 S) fun p6 =>
 some (p6.1,p6.2)))))))
theorem snd {x0 : (Option HA)} {x1 : Int} {S : HS}  {p : (HV) × HS} (h : f x0 x1 S = some p) : HCall Tryz.prog base W0 β0 62 [(.ptr x0),(.int .i64 x1)] S (fun v S1 => v = p.1 ∧ S1 = p.2) := by
 unfold f at h
 refine HCall.of_run at_.at_ body ?_
 show HRun Tryz.prog base W0 β0 62 none [.code c0] ⟨[(.ptr x0),(.int .i64 x1),τ,τ,τ,τ,τ,τ,τ,τ,τ,τ,τ,τ],[]⟩ S _
 refine qQ rfl (qR rfl rfl (qS 4 rfl (ok_assign · (.const fun _ => .nilFn)) (rE ?_)))
 try dsimp only [w0,w1,w2,w3]
 refine qQ rfl (qQ rfl (qR rfl rfl (qS 5 rfl (oM · rfl) (qS 6 rfl (ok_nil_ptr · tu79 (.tmp rfl) (.inl ⟨rfl,rfl⟩)) (rE ?_)))))
 try dsimp only [w0,w1,w2,w3]
 rcases ifc h with ⟨hc1,h⟩ | ⟨hc1,h⟩
 ·refine q_cond_t rfl (.tmp rfl) hc1 (qQ rfl (qR rfl rfl (qS 4 rfl (ok_assign · (.func _)) (rE ?_))))
  cases h
  exact q_ret rfl at_.at_ rfl (res1 rfl rfl) ⟨rfl,rfl⟩
 ·obtain ⟨p2,hp2,h⟩ := bindo h
  obtain ⟨p3,hp3,h⟩ := bindo h
  refine q_cond_f rfl (.tmp rfl) (bfalse hc1) (q_skipc rfl (qQ rfl (qR rfl rfl (qS 7 rfl (oM · rfl) (qS 8 rfl (oN · rfl hp2) (qS 9 rfl (oF · fi124_2 (by decide) rfl rfl) (qS 10 rfl (oL · sc121 rfl rfl (ldM_out hp3)) ?_)))))))
  try dsimp only [w0,w1,w2,w3]
  obtain ⟨p4,hp4,h⟩ := bindo h
  obtain ⟨p5,hp5,h⟩ := bindo h
  obtain ⟨p6,hp6,h⟩ := bindo h
  refine qS 11 rfl (oM · rfl) (qS 12 rfl (ok_lookup · tu121 zi134 (fun β => .ptrNil) (keyInt tu3) (.tmp rfl) (.tmp rfl) hp4 (dP_out hp5)) (q_call (dst := some 13) rfl (.func _) (.cons (.tmp rfl) Evs.nil) (HInv.static set_Set_string_All.at_ set_Set_string_All.body (set_Set_string_All.snd  hp6)) ?_))
  rintro _ _ ⟨rfl,rfl⟩
  refine qS 4 rfl (oA · rfl) (rE ?_)
  cases h
  exact q_ret rfl at_.at_ rfl (res1 rfl rfl) ⟨rfl,rfl⟩
end
end pair_Rel_int_string_Of
namespace rooms_Rooms_Of_1
theorem at_ : FnAt Tryz.prog 63 Tryz.f63 := ⟨Tryz.func63,by kernel_rfl⟩
def d0 := (Tryz.f63.body).getD .skip
def r1 := kR (kA d0)
def d4 := kA (kA (kB d0))
def r5 := kR (kA d4)
def r13 := kR (kA (kA (kA (kB (kB d4)))))
def r15 := kR (kA (kB (kA (kA (kB (kB d4))))))
def r19 := kR (kB (kB (kB d4)))
def c4 : Code := .seq (.region 1 r5 false) (.seq (.cond (.tmp 8) .skip (.exit 0)) (.seq (.block 1 (.seq (.region 2 r13 false) (.seq (.region 3 r15 false) (.cond (.tmp 14) .ret .skip)))) (.region 4 r19 false)))
def c0 : Code := .seq (.region 0 r1 false) (.block 0 (.loop c4))
theorem body : Tryz.f63.body = some c0 := by kernel_rfl
section
variable {base : Nat} {W0 : World} {β0 : Bt}
def L0 (D : Dp) (H : Hd) (k : Nat) : Nat → HV → Sl → Int → Int → HS → Option ((Unit) × HS)
 | 0,_,_,_,_,_ => none
 | n + 1,y0,y5,y6,y7,S =>
  (if y7 < y6 then
  (Option.bind (HS.idx S y5 y7 1) fun p4 =>
  (Option.bind (HS.ldP S p4) fun p5 =>
  (Option.bind (D H y0 [(.ptr p5)] S) fun p6 =>
  (Option.bind (dB p6.1) fun p7 =>
  (if (!p7) = true then
  some ((),p6.2) else
  (L0 D H k n) y0 y5 y6 (w64 (y7 + 1)) p6.2))))) else
  some ((),S))
theorem L0_snd (hD : DSound Tryz.prog base W0 D) (hH : HSound Tryz.prog base W0 β0 H)  : ∀ {n : Nat} ⦃y0 : HV⦄ ⦃y5 : Sl⦄ ⦃y6 : Int⦄ ⦃y7 : Int⦄ ⦃S : HS⦄ ⦃p : (Unit) × HS⦄ ⦃Gb Gc Gd Ge Gi Gj Gk Gl Gm Gn Go Gp : HV⦄,L0 D H k n y0 y5 y6 y7 S = some p → HRun Tryz.prog base W0 β0 63 none [.inLoop c4,.inBlock 0] ⟨[y0,Gb,Gc,Gd,Ge,(Sl.hv y5),(.int .i64 y6),(.int .i64 y7),Gi,Gj,Gk,Gl,Gm,Gn,Go,Gp],[]⟩ S (fun v S1 => v = (.tup []) ∧ S1 = p.2) := by
 intro n
 induction n with
 | zero => intro _ _ _ _ _ _ _ _ _ _ _ _ _ _ _ _ _ _ h; cases h
 | succ n ih =>
  intro y0 y5 y6 y7 S p Gb Gc Gd Ge Gi Gj Gk Gl Gm Gn Go Gp h
  simp only [L0] at h
  refine hr_inLoop (qQ rfl (qR rfl rfl (qS 8 rfl (oB · rfl rfl rfl) (rE ?_))))
  try dsimp only [w0,w1,w2,w3]
  refine qQ rfl ?_
  rcases ifc h with ⟨hc3,h⟩ | ⟨hc3,h⟩
  ·obtain ⟨p4,hp4,h⟩ := bindo h
   obtain ⟨p5,hp5,h⟩ := bindo h
   refine q_cond_t rfl (.tmp rfl) (decide_eq_true hc3) (q_skipc rfl (qQ rfl (q_block rfl (qQ rfl (qR rfl rfl (qS 9 rfl (oX (s := y5) · tu109 sz36 rfl rfl hp4) (qS 10 rfl (oL · sc36 rfl rfl (ldP_out hp5)) (qS 4 rfl (oA · rfl) (rE ?_)))))))))
   try dsimp only [w0,w1,w2,w3]
   obtain ⟨p6,hp6,h⟩ := bindo h
   obtain ⟨p7,hp7,h⟩ := bindo h
   refine qQ rfl (qR rfl rfl (qS 11 rfl (oM · rfl) (qS 12 rfl (oM · rfl) (q_call (dst := some 13) rfl (.tmp rfl) (.cons (.tmp rfl) Evs.nil) (hD _ _ hH _ _ _ _ _ hp6) ?_))))
   rintro _ _ ⟨rfl,rfl⟩
   rw [dB_out hp7]
   refine qS 14 rfl (ok_not · (.tmp rfl)) (rE ?_)
   try dsimp only [w0,w1,w2,w3]
   rcases ifc h with ⟨hc8,h⟩ | ⟨hc8,h⟩
   ·cases h
    exact q_cond_t rfl (.tmp rfl) hc8 (q_ret rfl at_.at_ rfl (res0 rfl) ⟨rfl,rfl⟩)
   ·refine q_cond_f rfl (.tmp rfl) (bfalse hc8) (q_skipc rfl (hr_inBlock (qR rfl rfl (qS 15 rfl (oC · rfl rfl) (qS 7 rfl (oM · rfl) (rE ?_))))))
    try dsimp only [w0,w1,w2,w3]
    exact ih h
  ·cases h
   exact q_cond_f rfl (.tmp rfl) (decide_eq_false hc3) (q_exit rfl rfl (q_end at_.at_ rfl (res0 rfl) ⟨rfl,rfl⟩))
def f (D : Dp) (H : Hd) (k : Nat) (x0 : HV) (x1 : (Option HA)) (S : HS) : Option ((Unit) × HS) :=
 (Option.bind (x1) fun p1 =>
 (Option.bind (HS.ldSl S p1) fun p2 =>
 L0 D H k k x0 p2 (Sl.len p2 : Int) 0 S))
theorem snd {x0 : HV} {x1 : (Option HA)} {S : HS} (hD : DSound Tryz.prog base W0 D) (hH : HSound Tryz.prog base W0 β0 H)  {p : (Unit) × HS} (h : f D H k x0 x1 S = some p) : HCall Tryz.prog base W0 β0 63 [x0,(.ptr x1)] S (fun v S1 => v = (.tup []) ∧ S1 = p.2) := by
 unfold f at h
 refine HCall.of_run at_.at_ body ?_
 show HRun Tryz.prog base W0 β0 63 none [.code c0] ⟨[x0,(.ptr x1),τ,τ,τ,τ,τ,τ,τ,τ,τ,τ,τ,τ,τ,τ],[]⟩ S _
 obtain ⟨p1,hp1,h⟩ := bindo h
 obtain ⟨p2,hp2,h⟩ := bindo h
 refine qQ rfl (qR rfl rfl (qS 5 rfl (oL · sc109 rfl hp1 (ldSl_out hp2)) (qS 6 rfl (ok_len_sl (q := Sl.a p2) (n := Sl.len p2) (z := Sl.cap p2) · rfl tu109 (.tmp rfl)) (qS 7 rfl (ok_move · (.int _ _)) (rE ?_)))))
 try dsimp only [w0,w1,w2,w3]
 refine q_block rfl (q_loop rfl ?_)
 try dsimp only [w0,w1,w2,w3]
 exact L0_snd hD hH h
end
end rooms_Rooms_Of_1
namespace rooms_Rooms_Of
theorem at_ : FnAt Tryz.prog 22 Tryz.f22 := ⟨Tryz.func22,by kernel_rfl⟩
def d0 := (Tryz.f22.body).getD .skip
def r1 := kR (kA d0)
def r3 := kR (kA (kB d0))
def d5 := kA (kB (kB d0))
def r6 := kR (kA d5)
def r9 := kR (kA (kA (kB d5)))
def r12 := kR (kA (kA (kB (kA (kB d5)))))
def d13 := kB (kA (kB (kA (kB d5))))
def r15 := kR (kA (kA d13))
def r16 := kR (kB (kA d13))
def r19 := kR (kA (kB (kB (kB d0))))
def c18 : Code := .seq (.region 7 r19 false) .ret
def c13 : Code := .block 1 (.seq (.region 5 r15 false) (.region 6 r16 false))
def c12 : Code := .region 4 r12 false
def c0 : Code := .seq (.region 0 r1 false) (.seq (.region 1 r3 false) (.seq (.seq (.region 2 r6 false) (.cond (.tmp 10) (.seq (.region 3 r9 false) (.block 0 (.rangeFunc (.tmp 16) #[17] c12 c13))) .skip)) c18))
theorem body : Tryz.f22.body = some c0 := by kernel_rfl
section
variable {base : Nat} {W0 : World} {β0 : Bt}
def J0 (D : Dp) (H : Hd) (k : Nat) (l : Nat) (y2 : (Option HA)) (y5 : (Option HA)) (y17 : (List UInt8)) (S : HS) : Option (HV × HS) :=
 (Option.bind (HS.begin_ S l) fun p9 =>
 (Option.bind (y2) fun p10 =>
 (Option.bind (HS.ldP p9 p10) fun p11 =>
 (Option.bind (p11) fun p12 =>
 (Option.bind (HS.ldP p9 (HA.fld p12 15)) fun p13 =>
 (Option.bind (book_Book_room_Room_Get.f D H k p13 y17 p9) fun p14 =>
 (Option.bind (y5) fun p15 =>
 (Option.bind (HS.ldSl p14.2 p15) fun p16 =>
 (letv (HS.lit p14.2 [[(.ptr p14.1.1)]] 1) fun p17 =>
 (Option.bind (HS.rows (p17.2) (p17.1) 1) fun p18 =>
 (Option.bind (HS.app (p17.2) p16 p18 1) fun p19 =>
 (Option.bind (y5) fun p20 =>
 (Option.bind (HS.sets (p19.2) p20 [(Sl.hv (p19.1))]) fun p21 =>
 (HS.endr p21 l none))))))))))))))
theorem J0_snd {l : Nat} (hD : DSound Tryz.prog base W0 D) (hH : HSound Tryz.prog base W0 β0 H)  {y2 : (Option HA)} {y5 : (Option HA)} {y17 : (List UInt8)} {S : HS} {p : HV × HS} (h : J0 D H k l y2 y5 y17 S = some p) : HRun Tryz.prog base W0 β0 22 (some l) [.code c12,.beginRound,.code c13] ⟨[Ga,Gb,(.ptr y2),Gd,Ge,(.ptr y5),Gg,Gh,Gi,Gj,Gk,Gl,Gm,Gn,Go,Gp,Gq,(.str y17),Gs,Gt,Gu,Gv,Gw,Gx,Gy,Gz,Ka,Kb,Kc,Kd,Ke,Kf],[]⟩ S (fun v S1 => v = p.1 ∧ S1 = p.2) := by
 unfold J0 at h
 refine qR rfl rfl (qS 6 rfl (oA · rfl) (rE ?_))
 try dsimp only [w0,w1,w2,w3]
 obtain ⟨p9,hp9,h⟩ := bindo h
 refine q_begin hp9 ?_
 obtain ⟨p10,hp10,h⟩ := bindo h
 obtain ⟨p11,hp11,h⟩ := bindo h
 obtain ⟨p12,hp12,h⟩ := bindo h
 obtain ⟨p13,hp13,h⟩ := bindo h
 refine q_block rfl (qQ rfl (qR rfl rfl (qS 19 rfl (oL · sc25 rfl hp10 (ldP_out hp11)) (qS 20 rfl (oN · rfl hp12) (qS 21 rfl (oF · fi83_1 (by decide) rfl rfl) (qS 22 rfl (oL · sc75 rfl rfl (ldP_out hp13)) ?_))))))
 try dsimp only [w0,w1,w2,w3]
 obtain ⟨p14,hp14,h⟩ := bindo h
 refine qS 23 rfl (oM · rfl) (q_call (dst := some 24) rfl (.func _) (.cons (.tmp rfl) (.cons (.tmp rfl) Evs.nil)) (HInv.static book_Book_room_Room_Get.at_ book_Book_room_Room_Get.body (book_Book_room_Room_Get.snd hD hH hp14)) ?_)
 rintro _ _ ⟨rfl,rfl⟩
 refine qS 18 rfl (oM · rfl) (qS 25 rfl (ok_extract · (.tmp rfl) rfl) ?_)
 try dsimp only [w0,w1,w2,w3]
 refine qS 26 rfl (ok_extract · (.tmp rfl) rfl) (qS 7 rfl (oA · rfl) (qS 8 rfl (oA · rfl) (rE ?_)))
 try dsimp only [w0,w1,w2,w3]
 obtain ⟨p15,hp15,h⟩ := bindo h
 obtain ⟨p16,hp16,h⟩ := bindo h
 obtain ⟨p17,hp17,h⟩ := leto h
 obtain ⟨p18,hp18,h⟩ := bindo h
 obtain ⟨p19,hp19,h⟩ := bindo h
 refine qR rfl rfl (qS 27 rfl (oL · sc109 rfl hp15 (ldSl_out hp16)) (qS 28 rfl (oM · rfl) (qS 29 rfl (ok_buildSlice_s (xs := [(.tmp 28)]) el109 · rfl rfl (by decide) (.cons (.tmp rfl) Evs.nil) rfl rfl hp17) (qS 30 rfl (ok_append (s := p16) (s1 := (p17.1)) el109 · rfl rfl ⟨_,tu109⟩ (.tmp rfl) (.tmp rfl) hp18 hp19) ?_))))
 try dsimp only [w0,w1,w2,w3]
 obtain ⟨p20,hp20,h⟩ := bindo h
 obtain ⟨p21,hp21,h⟩ := bindo h
 refine qN rfl (ok_store_s (v := (Sl.hv (p19.1))) · sz109 (.tmp rfl) hp20 (.tmp rfl) rfl hp21) (rE ?_)
 try dsimp only [w0,w1,w2,w3]
 refine hr_inBlock ?_
 exact q_round_end h ⟨rfl,rfl⟩
def J1 (D : Dp) (H : Hd) (k : Nat) (y5 : (Option HA)) (ds : List Nat) (S : HS) : Option ((HV) × HS) :=
 (Option.bind (HS.leave S ds) fun p29 =>
 some ((HV.fn (.func 63) [] [(.ptr y5)]),p29))
theorem J1_snd (hD : DSound Tryz.prog base W0 D) (hH : HSound Tryz.prog base W0 β0 H)  {y5 : (Option HA)} {ds : List Nat} {S : HS} {p : (HV) × HS} (h : J1 D H k y5 ds S = some p) : HRun Tryz.prog base W0 β0 22 none [.code c18] ⟨[Ga,Gb,Gc,Gd,Ge,(.ptr y5),Gg,Gh,Gi,Gj,Gk,Gl,Gm,Gn,Go,Gp,Gq,Gr,Gs,Gt,Gu,Gv,Gw,Gx,Gy,Gz,Ka,Kb,Kc,Kd,Ke,Kf],ds⟩ S (fun v S1 => v = p.1 ∧ S1 = p.2) := by
 unfold J1 at h
 refine qQ rfl (qR rfl rfl (qS 31 rfl (ok_makeFunc · Evs.nil (.cons (.tmp rfl) Evs.nil)) (qS 4 rfl (oA · rfl) (rE ?_))))
 try dsimp only [w0,w1,w2,w3]
 obtain ⟨p29,hp29,h⟩ := bindo h
 cases h
 exact q_ret rfl at_.at_ hp29 (res1 rfl rfl) ⟨rfl,rfl⟩
def f (D : Dp) (H : Hd) (k : Nat) (x0 : (Option HA)) (x1 : Int) (S : HS) : Option ((HV) × HS) :=
 (letv (HS.new S (.cells 1 [[(.ptr x0)]] true)) fun p1 =>
 (letv (HS.new p1 (.cells 1 [[(Sl.hv Sl.nil)]] true)) fun p2 =>
 (Option.bind (HS.ldP p2 (HA.cell0 S.next)) fun p3 =>
 (if (!Option.isNone p3) = true then
 (Option.bind (HS.ldP p2 (HA.cell0 S.next)) fun p5 =>
 (Option.bind (p5) fun p6 =>
 (Option.bind (HS.ldP p2 (HA.fld p6 16)) fun p7 =>
 (Option.bind (pair_Rel_int_string_Of.f p7 x1 p2) fun p8 =>
 (Option.bind (D (Hd.set H (HS.next p8.2 + 1) fun vs T =>
 (Option.bind (HS.lp T (HS.next p8.2 + 1)) fun u24 =>
 (Option.bind (args1 vs) fun ar22 =>
 (Option.bind (dS ar22) fun p23 =>
 (J0 D H k (HS.next p8.2 + 1) (some (HA.cell0 S.next)) (some (HA.cell0 p1.next)) p23 T))))) p8.1 [.fn (.yield (HS.next p8.2 + 1)) [] []] (HS.new (HS.new p8.2 .defer) (.loop .ready none))) fun p25 =>
 (Option.bind (HS.finish p25.2 (HS.next p8.2 + 1)) fun p26 =>
 (Option.bind (pcode p26.1) fun n27 =>
 (if n27 = 0 then
 J1 D H k (some (HA.cell0 p1.next)) (HS.next p8.2 :: []) p26.2 else
 none)))))))) else
 J1 D H k (some (HA.cell0 p1.next)) [] p2))))
theorem snd {x0 : (Option HA)} {x1 : Int} {S : HS} (hD : DSound Tryz.prog base W0 D) (hH : HSound Tryz.prog base W0 β0 H)  {p : (HV) × HS} (h : f D H k x0 x1 S = some p) : HCall Tryz.prog base W0 β0 22 [(.ptr x0),(.int .i64 x1)] S (fun v S1 => v = p.1 ∧ S1 = p.2) := by
 unfold f at h
 refine HCall.of_run at_.at_ body ?_
 show HRun Tryz.prog base W0 β0 22 none [.code c0] ⟨[(.ptr x0),(.int .i64 x1),τ,τ,τ,τ,τ,τ,τ,τ,τ,τ,τ,τ,τ,τ,τ,τ,τ,τ,τ,τ,τ,τ,τ,τ,τ,τ,τ,τ,τ,τ],[]⟩ S _
 obtain ⟨p1,hp1,h⟩ := leto h
 refine qQ rfl (qR rfl rfl (qS 2 rfl (ok_box_e · (.tmp rfl) (Nat.zero_lt_succ _) rfl hp1) (qS 4 rfl (ok_assign · (.const fun _ => .nilFn)) (rE ?_))))
 try dsimp only [w0,w1,w2,w3]
 obtain ⟨p2,hp2,h⟩ := leto h
 refine qQ rfl (qR rfl rfl (qS 5 rfl (ok_alloc_e · zi109 zr109 (by decide) rfl hp2) (rE ?_)))
 try dsimp only [w0,w1,w2,w3]
 obtain ⟨p3,hp3,h⟩ := bindo h
 refine qQ rfl (qQ rfl (qR rfl rfl (qS 9 rfl (oL · sc25 rfl rfl (ldP_out hp3)) (qS 10 rfl (ok_nil_ptr · tu25 (.tmp rfl) (.inr ⟨rfl,rfl⟩)) (rE ?_)))))
 try dsimp only [w0,w1,w2,w3]
 rcases ifc h with ⟨hc4,h⟩ | ⟨hc4,h⟩
 ·obtain ⟨p5,hp5,h⟩ := bindo h
  obtain ⟨p6,hp6,h⟩ := bindo h
  obtain ⟨p7,hp7,h⟩ := bindo h
  refine q_cond_t rfl (.tmp rfl) hc4 (qQ rfl (qR rfl rfl (qS 11 rfl (oL · sc25 rfl rfl (ldP_out hp5)) (qS 12 rfl (oN · rfl hp6) (qS 13 rfl (oF · fi83_2 (by decide) rfl rfl) (qS 14 rfl (oL · sc79 rfl rfl (ldP_out hp7)) ?_))))))
  try dsimp only [w0,w1,w2,w3]
  obtain ⟨p8,hp8,h⟩ := bindo h
  refine qS 15 rfl (oM · rfl) (q_call (dst := some 16) rfl (.func _) (.cons (.tmp rfl) (.cons (.tmp rfl) Evs.nil)) (HInv.static pair_Rel_int_string_Of.at_ pair_Rel_int_string_Of.body (pair_Rel_int_string_Of.snd  hp8)) ?_)
  rintro _ _ ⟨rfl,rfl⟩
  refine rE ?_
  try dsimp only [w0,w1,w2,w3]
  obtain ⟨p25,hp25,h⟩ := bindo h
  obtain ⟨p26,hp26,h⟩ := bindo h
  obtain ⟨n27,hn27,h⟩ := bindo h
  refine q_block rfl ?_
  refine q_range (D := D) (H := H) rfl (.tmp rfl) hD hH hp25 hp26 ?_ ?_
  ·intro β1 hle hLA vs T u T' hr
   obtain ⟨u24,hu24,hr⟩ := bindo hr
   obtain ⟨ar22,har22,hr⟩ := bindo hr
   obtain ⟨p23,hp23,hr⟩ := bindo hr
   rw [args1_out har22]
   refine q_yield2 hLA hu24 rfl rfl ?_
   rw [dS_out hp23]
   simp only [HAct.params,List.set_cons_zero,List.set_cons_succ]
   exact J0_snd hD (hH.up hle) hr
  ·rcases ifc h with ⟨hc28,h⟩ | ⟨hc28,h⟩
   ·rw [pcode0 hn27 hc28]
    simp only [jumped_none,jumped_some]
    refine hr_inBlock ?_
    try dsimp only [w0,w1,w2,w3]
    exact J1_snd hD hH h
   ·cases h
 ·refine q_cond_f rfl (.tmp rfl) (bfalse hc4) (q_skipc rfl ?_)
  try dsimp only [w0,w1,w2,w3]
  exact J1_snd hD hH h
end
end rooms_Rooms_Of
namespace room_Room_Members_1
theorem at_ : FnAt Tryz.prog 81 Tryz.f81 := ⟨Tryz.func81,by kernel_rfl⟩
def c0 : Code := .skip
theorem body : Tryz.f81.body = some c0 := by kernel_rfl
section
variable {base : Nat} {W0 : World} {β0 : Bt}
def f (x0 : HV) : Option (Unit) :=
 some ()
theorem snd {x0 : HV} {S : HS}  {p : Unit} (h : f x0 = some p) : HCall Tryz.prog base W0 β0 81 [x0] S (fun v S1 => v = (.tup []) ∧ S1 = S) := by
 unfold f at h
 refine HCall.of_run at_.at_ body ?_
 show HRun Tryz.prog base W0 β0 81 none [.code c0] ⟨[x0,τ],[]⟩ S _
 cases h
 exact q_skipc rfl (q_end at_.at_ rfl (res0 rfl) ⟨rfl,rfl⟩)
end
end room_Room_Members_1
namespace slices_Clone_api_Member_api_Member
theorem at_ : FnAt Tryz.prog 83 Tryz.f83 := ⟨Tryz.func83,by kernel_rfl⟩
def d0 := (Tryz.f83.body).getD .skip
def r1 := kR (kA d0)
def r4 := kR (kA (kA (kB d0)))
def r7 := kR (kA (kA (kB (kA (kB d0)))))
def r11 := kR (kA (kB (kB d0)))
def c0 : Code := .seq (.region 0 r1 false) (.seq (.seq (.region 1 r4 false) (.cond (.tmp 4) (.seq (.region 2 r7 false) .ret) .skip)) (.seq (.region 3 r11 false) .ret))
theorem body : Tryz.f83.body = some c0 := by kernel_rfl
section
variable {base : Nat} {W0 : World} {β0 : Bt}
def f (x0 : Sl) (S : HS) : Option ((Sl) × HS) :=
 (if (Option.isNone (Sl.a x0)) = true then
 some (Sl.nil,S) else
 (letv (HS.lit S [] 3) fun p2 =>
 (Option.bind (HS.rows (p2.2) x0 3) fun p3 =>
 (Option.bind (HS.app (p2.2) (p2.1) p3 3) fun p4 =>
 some ((p4.1),(p4.2))))))
theorem snd {x0 : Sl} {S : HS}  {p : (Sl) × HS} (h : f x0 S = some p) : HCall Tryz.prog base W0 β0 83 [(Sl.hv x0)] S (fun v S1 => v = (Sl.hv p.1) ∧ S1 = p.2) := by
 unfold f at h
 refine HCall.of_run at_.at_ body ?_
 show HRun Tryz.prog base W0 β0 83 none [.code c0] ⟨[(Sl.hv x0),τ,τ,τ,τ,τ,τ,τ],[]⟩ S _
 refine qQ rfl (qR rfl rfl (qS 2 rfl (ok_assign · (.const fun _ => .slNil none)) (rE ?_)))
 try dsimp only [w0,w1,w2,w3]
 refine qQ rfl (qQ rfl (qR rfl rfl (qS 3 rfl (oM · rfl) (qS 4 rfl (ok_nil_sl · tu87 (.tmp rfl) (.inl ⟨rfl,rfl⟩)) (rE ?_)))))
 try dsimp only [w0,w1,w2,w3]
 rcases ifc h with ⟨hc1,h⟩ | ⟨hc1,h⟩
 ·refine q_cond_t rfl (.tmp rfl) hc1 (qQ rfl (qR rfl rfl (qS 2 rfl (ok_assign · (.const fun _ => .slNil none)) (rE ?_))))
  cases h
  exact q_ret rfl at_.at_ rfl (res1 rfl rfl) ⟨rfl,rfl⟩
 ·obtain ⟨p2,hp2,h⟩ := leto h
  obtain ⟨p3,hp3,h⟩ := bindo h
  obtain ⟨p4,hp4,h⟩ := bindo h
  refine q_cond_f rfl (.tmp rfl) (bfalse hc1) (q_skipc rfl (qQ rfl (qR rfl rfl (qS 5 rfl (ok_buildSlice_s (xs := []) el87 · rfl rfl (by decide) Evs.nil rfl rfl hp2) (qS 6 rfl (oM · rfl) (qS 7 rfl (ok_append (s := (p2.1)) (s1 := x0) el87 · rfl rfl ⟨_,tu87⟩ (.tmp rfl) (.tmp rfl) hp3 hp4) (qS 2 rfl (oA · rfl) (rE ?_))))))))
  cases h
  exact q_ret rfl at_.at_ rfl (res1 rfl rfl) ⟨rfl,rfl⟩
end
end slices_Clone_api_Member_api_Member
namespace slices_Values_api_Member_api_Member_1
theorem at_ : FnAt Tryz.prog 113 Tryz.f113 := ⟨Tryz.func113,by kernel_rfl⟩
def d0 := (Tryz.f113.body).getD .skip
def r1 := kR (kA d0)
def d4 := kA (kA (kB d0))
def r5 := kR (kA d4)
def r13 := kR (kA (kA (kA (kB (kB d4)))))
def r15 := kR (kA (kB (kA (kA (kB (kB d4))))))
def r19 := kR (kB (kB (kB d4)))
def c4 : Code := .seq (.region 1 r5 false) (.seq (.cond (.tmp 8) .skip (.exit 0)) (.seq (.block 1 (.seq (.region 2 r13 false) (.seq (.region 3 r15 false) (.cond (.tmp 14) .ret .skip)))) (.region 4 r19 false)))
def c0 : Code := .seq (.region 0 r1 false) (.block 0 (.loop c4))
theorem body : Tryz.f113.body = some c0 := by kernel_rfl
section
variable {base : Nat} {W0 : World} {β0 : Bt}
def L0 (D : Dp) (H : Hd) (k : Nat) : Nat → HV → Sl → Int → Int → HS → Option ((Unit) × HS)
 | 0,_,_,_,_,_ => none
 | n + 1,y0,y5,y6,y7,S =>
  (if y7 < y6 then
  (Option.bind (HS.idx S y5 y7 3) fun p4 =>
  (Option.bind (HS.ldI S .i64 (HA.fld p4 0)) fun p5 =>
  (Option.bind (HS.ldB S (HA.fld p4 1)) fun p6 =>
  (Option.bind (HS.ldB S (HA.fld p4 2)) fun p7 =>
  (letv (HS.new S (.cells 3 [[(.int .i64 0),(.bool false),(.bool false)]] true)) fun p8 =>
  (Option.bind (HS.sets p8 (HA.cell0 S.next) [(.int .i64 p5),(.bool p6),(.bool p7)]) fun p9 =>
  (Option.bind (HS.ldI p9 .i64 (HA.fld (HA.cell0 S.next) 0)) fun p10 =>
  (Option.bind (HS.ldB p9 (HA.fld (HA.cell0 S.next) 1)) fun p11 =>
  (Option.bind (HS.ldB p9 (HA.fld (HA.cell0 S.next) 2)) fun p12 =>
  (Option.bind (D H y0 [(.agg [(.int .i64 p10),(.bool p11),(.bool p12)])] p9) fun p13 =>
  (Option.bind (dB p13.1) fun p14 =>
  (if (!p14) = true then
  some ((),p13.2) else
  (L0 D H k n) y0 y5 y6 (w64 (y7 + 1)) p13.2)))))))))))) else
  some ((),S))
theorem L0_snd (hD : DSound Tryz.prog base W0 D) (hH : HSound Tryz.prog base W0 β0 H)  : ∀ {n : Nat} ⦃y0 : HV⦄ ⦃y5 : Sl⦄ ⦃y6 : Int⦄ ⦃y7 : Int⦄ ⦃S : HS⦄ ⦃p : (Unit) × HS⦄ ⦃Gb Gc Gd Ge Gi Gj Gk Gl Gm Gn Go Gp : HV⦄,L0 D H k n y0 y5 y6 y7 S = some p → HRun Tryz.prog base W0 β0 113 none [.inLoop c4,.inBlock 0] ⟨[y0,Gb,Gc,Gd,Ge,(Sl.hv y5),(.int .i64 y6),(.int .i64 y7),Gi,Gj,Gk,Gl,Gm,Gn,Go,Gp],[]⟩ S (fun v S1 => v = (.tup []) ∧ S1 = p.2) := by
 intro n
 induction n with
 | zero => intro _ _ _ _ _ _ _ _ _ _ _ _ _ _ _ _ _ _ h; cases h
 | succ n ih =>
  intro y0 y5 y6 y7 S p Gb Gc Gd Ge Gi Gj Gk Gl Gm Gn Go Gp h
  simp only [L0] at h
  refine hr_inLoop (qQ rfl (qR rfl rfl (qS 8 rfl (oB · rfl rfl rfl) (rE ?_))))
  try dsimp only [w0,w1,w2,w3]
  refine qQ rfl ?_
  rcases ifc h with ⟨hc3,h⟩ | ⟨hc3,h⟩
  ·obtain ⟨p4,hp4,h⟩ := bindo h
   obtain ⟨p5,hp5,h⟩ := bindo h
   obtain ⟨p6,hp6,h⟩ := bindo h
   obtain ⟨p7,hp7,h⟩ := bindo h
   obtain ⟨p8,hp8,h⟩ := leto h
   obtain ⟨p9,hp9,h⟩ := bindo h
   refine q_cond_t rfl (.tmp rfl) (decide_eq_true hc3) (q_skipc rfl (qQ rfl (q_block rfl (qQ rfl (qR rfl rfl (qS 9 rfl (oX (s := y5) · tu87 sz62 rfl rfl hp4) (qS 10 rfl (ok_load_a (vs := [(.int .i64 p5),(.bool p6),(.bool p7)]) · ia62 (.tmp rfl) rfl ⟨ldI_out hp5,ldB_out hp6,ldB_out hp7,trivial⟩ (by simp)) (qS 4 rfl (ok_alloc_e · zi62 zr62 (by decide) rfl hp8) (qN rfl (ok_store_s (v := (.agg [(.int .i64 p5),(.bool p6),(.bool p7)])) · sz62 (.tmp rfl) rfl (.tmp rfl) rfl hp9) (rE ?_))))))))))
   try dsimp only [w0,w1,w2,w3]
   obtain ⟨p10,hp10,h⟩ := bindo h
   obtain ⟨p11,hp11,h⟩ := bindo h
   obtain ⟨p12,hp12,h⟩ := bindo h
   obtain ⟨p13,hp13,h⟩ := bindo h
   obtain ⟨p14,hp14,h⟩ := bindo h
   refine qQ rfl (qR rfl rfl (qS 11 rfl (oM · rfl) (qS 12 rfl (ok_load_a (vs := [(.int .i64 p10),(.bool p11),(.bool p12)]) · ia62 (.tmp rfl) rfl ⟨ldI_out hp10,ldB_out hp11,ldB_out hp12,trivial⟩ (by simp)) (q_call (dst := some 13) rfl (.tmp rfl) (.cons (.tmp rfl) Evs.nil) (hD _ _ hH _ _ _ _ _ hp13) ?_))))
   rintro _ _ ⟨rfl,rfl⟩
   rw [dB_out hp14]
   refine qS 14 rfl (ok_not · (.tmp rfl)) (rE ?_)
   try dsimp only [w0,w1,w2,w3]
   rcases ifc h with ⟨hc15,h⟩ | ⟨hc15,h⟩
   ·cases h
    exact q_cond_t rfl (.tmp rfl) hc15 (q_ret rfl at_.at_ rfl (res0 rfl) ⟨rfl,rfl⟩)
   ·refine q_cond_f rfl (.tmp rfl) (bfalse hc15) (q_skipc rfl (hr_inBlock (qR rfl rfl (qS 15 rfl (oC · rfl rfl) (qS 7 rfl (oM · rfl) (rE ?_))))))
    try dsimp only [w0,w1,w2,w3]
    exact ih h
  ·cases h
   exact q_cond_f rfl (.tmp rfl) (decide_eq_false hc3) (q_exit rfl rfl (q_end at_.at_ rfl (res0 rfl) ⟨rfl,rfl⟩))
def f (D : Dp) (H : Hd) (k : Nat) (x0 : HV) (x1 : (Option HA)) (S : HS) : Option ((Unit) × HS) :=
 (Option.bind (x1) fun p1 =>
 (Option.bind (HS.ldSl S p1) fun p2 =>
 L0 D H k k x0 p2 (Sl.len p2 : Int) 0 S))
theorem snd {x0 : HV} {x1 : (Option HA)} {S : HS} (hD : DSound Tryz.prog base W0 D) (hH : HSound Tryz.prog base W0 β0 H)  {p : (Unit) × HS} (h : f D H k x0 x1 S = some p) : HCall Tryz.prog base W0 β0 113 [x0,(.ptr x1)] S (fun v S1 => v = (.tup []) ∧ S1 = p.2) := by
 unfold f at h
 refine HCall.of_run at_.at_ body ?_
 show HRun Tryz.prog base W0 β0 113 none [.code c0] ⟨[x0,(.ptr x1),τ,τ,τ,τ,τ,τ,τ,τ,τ,τ,τ,τ,τ,τ],[]⟩ S _
 obtain ⟨p1,hp1,h⟩ := bindo h
 obtain ⟨p2,hp2,h⟩ := bindo h
 refine qQ rfl (qR rfl rfl (qS 5 rfl (oL · sc87 rfl hp1 (ldSl_out hp2)) (qS 6 rfl (ok_len_sl (q := Sl.a p2) (n := Sl.len p2) (z := Sl.cap p2) · rfl tu87 (.tmp rfl)) (qS 7 rfl (ok_move · (.int _ _)) (rE ?_)))))
 try dsimp only [w0,w1,w2,w3]
 refine q_block rfl (q_loop rfl ?_)
 try dsimp only [w0,w1,w2,w3]
 exact L0_snd hD hH h
end
end slices_Values_api_Member_api_Member_1
namespace slices_Values_api_Member_api_Member
theorem at_ : FnAt Tryz.prog 82 Tryz.f82 := ⟨Tryz.func82,by kernel_rfl⟩
def d0 := (Tryz.f82.body).getD .skip
def r1 := kR (kA d0)
def r3 := kR (kA (kB d0))
def c0 : Code := .seq (.region 0 r1 false) (.seq (.region 1 r3 false) .ret)
theorem body : Tryz.f82.body = some c0 := by kernel_rfl
section
variable {base : Nat} {W0 : World} {β0 : Bt}
def f (x0 : Sl) (S : HS) : Option ((HV) × HS) :=
 (letv (HS.new S (.cells 1 [[(Sl.hv x0)]] true)) fun p1 =>
 some ((HV.fn (.func 113) [] [(.ptr (some (HA.cell0 S.next)))]),p1))
theorem snd {x0 : Sl} {S : HS}  {p : (HV) × HS} (h : f x0 S = some p) : HCall Tryz.prog base W0 β0 82 [(Sl.hv x0)] S (fun v S1 => v = p.1 ∧ S1 = p.2) := by
 unfold f at h
 refine HCall.of_run at_.at_ body ?_
 show HRun Tryz.prog base W0 β0 82 none [.code c0] ⟨[(Sl.hv x0),τ,τ,τ],[]⟩ S _
 obtain ⟨p1,hp1,h⟩ := leto h
 refine qQ rfl (qR rfl rfl (qS 1 rfl (ok_box_e · (.tmp rfl) (Nat.zero_lt_succ _) rfl hp1) (qS 2 rfl (ok_assign · (.const fun _ => .nilFn)) (rE ?_))))
 try dsimp only [w0,w1,w2,w3]
 refine qQ rfl (qR rfl rfl (qS 3 rfl (ok_makeFunc · Evs.nil (.cons (.tmp rfl) Evs.nil)) (qS 2 rfl (oA · rfl) (rE ?_))))
 cases h
 exact q_ret rfl at_.at_ rfl (res1 rfl rfl) ⟨rfl,rfl⟩
end
end slices_Values_api_Member_api_Member
namespace room_Room_Members
theorem at_ : FnAt Tryz.prog 54 Tryz.f54 := ⟨Tryz.func54,by kernel_rfl⟩
def d0 := (Tryz.f54.body).getD .skip
def r1 := kR (kA d0)
def r4 := kR (kA (kA (kB d0)))
def r7 := kR (kA (kA (kB (kA (kB d0)))))
def r11 := kR (kA (kB (kB d0)))
def c0 : Code := .seq (.region 0 r1 false) (.seq (.seq (.region 1 r4 false) (.cond (.tmp 4) (.seq (.region 2 r7 false) .ret) .skip)) (.seq (.region 3 r11 false) .ret))
theorem body : Tryz.f54.body = some c0 := by kernel_rfl
section
variable {base : Nat} {W0 : World} {β0 : Bt}
def f (x0 : (Option HA)) (S : HS) : Option ((HV) × HS) :=
 (if (Option.isNone x0) = true then
 some ((HV.fn (.func 81) [] []),S) else
 (Option.bind (x0) fun p2 =>
 (Option.bind (HS.ldSl S (HA.fld p2 2)) fun p3 =>
 (Option.bind (slices_Clone_api_Member_api_Member.f p3 S) fun p4 =>
 (Option.bind (slices_Values_api_Member_api_Member.f p4.1 p4.2) fun p5 =>
 some (p5.1,p5.2))))))
theorem snd {x0 : (Option HA)} {S : HS}  {p : (HV) × HS} (h : f x0 S = some p) : HCall Tryz.prog base W0 β0 54 [(.ptr x0)] S (fun v S1 => v = p.1 ∧ S1 = p.2) := by
 unfold f at h
 refine HCall.of_run at_.at_ body ?_
 show HRun Tryz.prog base W0 β0 54 none [.code c0] ⟨[(.ptr x0),τ,τ,τ,τ,τ,τ,τ,τ,τ,τ],[]⟩ S _
 refine qQ rfl (qR rfl rfl (qS 2 rfl (ok_assign · (.const fun _ => .nilFn)) (rE ?_)))
 try dsimp only [w0,w1,w2,w3]
 refine qQ rfl (qQ rfl (qR rfl rfl (qS 3 rfl (oM · rfl) (qS 4 rfl (ok_nil_ptr · tu36 (.tmp rfl) (.inl ⟨rfl,rfl⟩)) (rE ?_)))))
 try dsimp only [w0,w1,w2,w3]
 rcases ifc h with ⟨hc1,h⟩ | ⟨hc1,h⟩
 ·refine q_cond_t rfl (.tmp rfl) hc1 (qQ rfl (qR rfl rfl (qS 2 rfl (ok_assign · (.func _)) (rE ?_))))
  cases h
  exact q_ret rfl at_.at_ rfl (res1 rfl rfl) ⟨rfl,rfl⟩
 ·obtain ⟨p2,hp2,h⟩ := bindo h
  obtain ⟨p3,hp3,h⟩ := bindo h
  refine q_cond_f rfl (.tmp rfl) (bfalse hc1) (q_skipc rfl (qQ rfl (qR rfl rfl (qS 5 rfl (oM · rfl) (qS 6 rfl (oN · rfl hp2) (qS 7 rfl (oF · fi114_2 (by decide) rfl rfl) (qS 8 rfl (oL · sc87 rfl rfl (ldSl_out hp3)) ?_)))))))
  try dsimp only [w0,w1,w2,w3]
  obtain ⟨p4,hp4,h⟩ := bindo h
  refine q_call (dst := some 9) rfl (.func _) (.cons (.tmp rfl) Evs.nil) (HInv.static slices_Clone_api_Member_api_Member.at_ slices_Clone_api_Member_api_Member.body (slices_Clone_api_Member_api_Member.snd  hp4)) ?_
  rintro _ _ ⟨rfl,rfl⟩
  obtain ⟨p5,hp5,h⟩ := bindo h
  refine q_call (dst := some 10) rfl (.func _) (.cons (.tmp rfl) Evs.nil) (HInv.static slices_Values_api_Member_api_Member.at_ slices_Values_api_Member_api_Member.body (slices_Values_api_Member_api_Member.snd  hp5)) ?_
  rintro _ _ ⟨rfl,rfl⟩
  refine qS 2 rfl (oA · rfl) (rE ?_)
  cases h
  exact q_ret rfl at_.at_ rfl (res1 rfl rfl) ⟨rfl,rfl⟩
end
end room_Room_Members
namespace slices_Clone_int_int
theorem at_ : FnAt Tryz.prog 118 Tryz.f118 := ⟨Tryz.func118,by kernel_rfl⟩
def d0 := (Tryz.f118.body).getD .skip
def r1 := kR (kA d0)
def r4 := kR (kA (kA (kB d0)))
def r7 := kR (kA (kA (kB (kA (kB d0)))))
def r11 := kR (kA (kB (kB d0)))
def c0 : Code := .seq (.region 0 r1 false) (.seq (.seq (.region 1 r4 false) (.cond (.tmp 4) (.seq (.region 2 r7 false) .ret) .skip)) (.seq (.region 3 r11 false) .ret))
theorem body : Tryz.f118.body = some c0 := by kernel_rfl
section
variable {base : Nat} {W0 : World} {β0 : Bt}
def f (x0 : Sl) (S : HS) : Option ((Sl) × HS) :=
 (if (Option.isNone (Sl.a x0)) = true then
 some (Sl.nil,S) else
 (letv (HS.lit S [] 1) fun p2 =>
 (Option.bind (HS.rows (p2.2) x0 1) fun p3 =>
 (Option.bind (HS.app (p2.2) (p2.1) p3 1) fun p4 =>
 some ((p4.1),(p4.2))))))
theorem snd {x0 : Sl} {S : HS}  {p : (Sl) × HS} (h : f x0 S = some p) : HCall Tryz.prog base W0 β0 118 [(Sl.hv x0)] S (fun v S1 => v = (Sl.hv p.1) ∧ S1 = p.2) := by
 unfold f at h
 refine HCall.of_run at_.at_ body ?_
 show HRun Tryz.prog base W0 β0 118 none [.code c0] ⟨[(Sl.hv x0),τ,τ,τ,τ,τ,τ,τ],[]⟩ S _
 refine qQ rfl (qR rfl rfl (qS 2 rfl (ok_assign · (.const fun _ => .slNil none)) (rE ?_)))
 try dsimp only [w0,w1,w2,w3]
 refine qQ rfl (qQ rfl (qR rfl rfl (qS 3 rfl (oM · rfl) (qS 4 rfl (ok_nil_sl · tu42 (.tmp rfl) (.inl ⟨rfl,rfl⟩)) (rE ?_)))))
 try dsimp only [w0,w1,w2,w3]
 rcases ifc h with ⟨hc1,h⟩ | ⟨hc1,h⟩
 ·refine q_cond_t rfl (.tmp rfl) hc1 (qQ rfl (qR rfl rfl (qS 2 rfl (ok_assign · (.const fun _ => .slNil none)) (rE ?_))))
  cases h
  exact q_ret rfl at_.at_ rfl (res1 rfl rfl) ⟨rfl,rfl⟩
 ·obtain ⟨p2,hp2,h⟩ := leto h
  obtain ⟨p3,hp3,h⟩ := bindo h
  obtain ⟨p4,hp4,h⟩ := bindo h
  refine q_cond_f rfl (.tmp rfl) (bfalse hc1) (q_skipc rfl (qQ rfl (qR rfl rfl (qS 5 rfl (ok_buildSlice_s (xs := []) el42 · rfl rfl (by decide) Evs.nil rfl rfl hp2) (qS 6 rfl (oM · rfl) (qS 7 rfl (ok_append (s := (p2.1)) (s1 := x0) el42 · rfl rfl ⟨_,tu42⟩ (.tmp rfl) (.tmp rfl) hp3 hp4) (qS 2 rfl (oA · rfl) (rE ?_))))))))
  cases h
  exact q_ret rfl at_.at_ rfl (res1 rfl rfl) ⟨rfl,rfl⟩
end
end slices_Clone_int_int
namespace set_Set_int_List
theorem at_ : FnAt Tryz.prog 87 Tryz.f87 := ⟨Tryz.func87,by kernel_rfl⟩
def d0 := (Tryz.f87.body).getD .skip
def r1 := kR (kA d0)
def r4 := kR (kA (kA (kB d0)))
def r7 := kR (kA (kA (kB (kA (kB d0)))))
def r11 := kR (kA (kB (kB d0)))
def c0 : Code := .seq (.region 0 r1 false) (.seq (.seq (.region 1 r4 false) (.cond (.tmp 4) (.seq (.region 2 r7 false) .ret) .skip)) (.seq (.region 3 r11 false) .ret))
theorem body : Tryz.f87.body = some c0 := by kernel_rfl
section
variable {base : Nat} {W0 : World} {β0 : Bt}
def f (x0 : (Option HA)) (S : HS) : Option ((Sl) × HS) :=
 (if (Option.isNone x0) = true then
 some (Sl.nil,S) else
 (Option.bind (x0) fun p2 =>
 (Option.bind (HS.ldSl S (HA.fld p2 0)) fun p3 =>
 (Option.bind (slices_Clone_int_int.f p3 S) fun p4 =>
 some (p4.1,p4.2)))))
theorem snd {x0 : (Option HA)} {S : HS}  {p : (Sl) × HS} (h : f x0 S = some p) : HCall Tryz.prog base W0 β0 87 [(.ptr x0)] S (fun v S1 => v = (Sl.hv p.1) ∧ S1 = p.2) := by
 unfold f at h
 refine HCall.of_run at_.at_ body ?_
 show HRun Tryz.prog base W0 β0 87 none [.code c0] ⟨[(.ptr x0),τ,τ,τ,τ,τ,τ,τ,τ,τ],[]⟩ S _
 refine qQ rfl (qR rfl rfl (qS 2 rfl (ok_assign · (.const fun _ => .slNil none)) (rE ?_)))
 try dsimp only [w0,w1,w2,w3]
 refine qQ rfl (qQ rfl (qR rfl rfl (qS 3 rfl (oM · rfl) (qS 4 rfl (ok_nil_ptr · tu96 (.tmp rfl) (.inl ⟨rfl,rfl⟩)) (rE ?_)))))
 try dsimp only [w0,w1,w2,w3]
 rcases ifc h with ⟨hc1,h⟩ | ⟨hc1,h⟩
 ·refine q_cond_t rfl (.tmp rfl) hc1 (qQ rfl (qR rfl rfl (qS 2 rfl (ok_assign · (.const fun _ => .slNil none)) (rE ?_))))
  cases h
  exact q_ret rfl at_.at_ rfl (res1 rfl rfl) ⟨rfl,rfl⟩
 ·obtain ⟨p2,hp2,h⟩ := bindo h
  obtain ⟨p3,hp3,h⟩ := bindo h
  refine q_cond_f rfl (.tmp rfl) (bfalse hc1) (q_skipc rfl (qQ rfl (qR rfl rfl (qS 5 rfl (oM · rfl) (qS 6 rfl (oN · rfl hp2) (qS 7 rfl (oF · fi138_0 (by decide) rfl rfl) (qS 8 rfl (oL · sc42 rfl rfl (ldSl_out hp3)) ?_)))))))
  try dsimp only [w0,w1,w2,w3]
  obtain ⟨p4,hp4,h⟩ := bindo h
  refine q_call (dst := some 9) rfl (.func _) (.cons (.tmp rfl) Evs.nil) (HInv.static slices_Clone_int_int.at_ slices_Clone_int_int.body (slices_Clone_int_int.snd  hp4)) ?_
  rintro _ _ ⟨rfl,rfl⟩
  refine qS 2 rfl (oA · rfl) (rE ?_)
  cases h
  exact q_ret rfl at_.at_ rfl (res1 rfl rfl) ⟨rfl,rfl⟩
end
end set_Set_int_List
namespace slices_Clone_int_int_89
theorem at_ : FnAt Tryz.prog 89 Tryz.f89 := ⟨Tryz.func89,by kernel_rfl⟩
def d0 := (Tryz.f89.body).getD .skip
def r1 := kR (kA d0)
def r4 := kR (kA (kA (kB d0)))
def r7 := kR (kA (kA (kB (kA (kB d0)))))
def r11 := kR (kA (kB (kB d0)))
def c0 : Code := .seq (.region 0 r1 false) (.seq (.seq (.region 1 r4 false) (.cond (.tmp 4) (.seq (.region 2 r7 false) .ret) .skip)) (.seq (.region 3 r11 false) .ret))
theorem body : Tryz.f89.body = some c0 := by kernel_rfl
section
variable {base : Nat} {W0 : World} {β0 : Bt}
def f (x0 : Sl) (S : HS) : Option ((Sl) × HS) :=
 (if (Option.isNone (Sl.a x0)) = true then
 some (Sl.nil,S) else
 (letv (HS.lit S [] 1) fun p2 =>
 (Option.bind (HS.rows (p2.2) x0 1) fun p3 =>
 (Option.bind (HS.app (p2.2) (p2.1) p3 1) fun p4 =>
 some ((p4.1),(p4.2))))))
theorem snd {x0 : Sl} {S : HS}  {p : (Sl) × HS} (h : f x0 S = some p) : HCall Tryz.prog base W0 β0 89 [(Sl.hv x0)] S (fun v S1 => v = (Sl.hv p.1) ∧ S1 = p.2) := by
 unfold f at h
 refine HCall.of_run at_.at_ body ?_
 show HRun Tryz.prog base W0 β0 89 none [.code c0] ⟨[(Sl.hv x0),τ,τ,τ,τ,τ,τ,τ],[]⟩ S _
 refine qQ rfl (qR rfl rfl (qS 2 rfl (ok_assign · (.const fun _ => .slNil none)) (rE ?_)))
 try dsimp only [w0,w1,w2,w3]
 refine qQ rfl (qQ rfl (qR rfl rfl (qS 3 rfl (oM · rfl) (qS 4 rfl (ok_nil_sl · tu144 (.tmp rfl) (.inl ⟨rfl,rfl⟩)) (rE ?_)))))
 try dsimp only [w0,w1,w2,w3]
 rcases ifc h with ⟨hc1,h⟩ | ⟨hc1,h⟩
 ·refine q_cond_t rfl (.tmp rfl) hc1 (qQ rfl (qR rfl rfl (qS 2 rfl (ok_assign · (.const fun _ => .slNil none)) (rE ?_))))
  cases h
  exact q_ret rfl at_.at_ rfl (res1 rfl rfl) ⟨rfl,rfl⟩
 ·obtain ⟨p2,hp2,h⟩ := leto h
  obtain ⟨p3,hp3,h⟩ := bindo h
  obtain ⟨p4,hp4,h⟩ := bindo h
  refine q_cond_f rfl (.tmp rfl) (bfalse hc1) (q_skipc rfl (qQ rfl (qR rfl rfl (qS 5 rfl (ok_buildSlice_s (xs := []) el144 · rfl rfl (by decide) Evs.nil rfl rfl hp2) (qS 6 rfl (oM · rfl) (qS 7 rfl (ok_append (s := (p2.1)) (s1 := x0) el144 · rfl rfl ⟨_,tu144⟩ (.tmp rfl) (.tmp rfl) hp3 hp4) (qS 2 rfl (oA · rfl) (rE ?_))))))))
  cases h
  exact q_ret rfl at_.at_ rfl (res1 rfl rfl) ⟨rfl,rfl⟩
end
end slices_Clone_int_int_89
namespace set_Union_int_1
theorem at_ : FnAt Tryz.prog 88 Tryz.f88 := ⟨Tryz.func88,by kernel_rfl⟩
def d0 := (Tryz.f88.body).getD .skip
def r1 := kR (kA d0)
def d4 := kA (kA (kB d0))
def r6 := kR (kA (kA d4))
def d8 := kA (kB (kA d4))
def r9 := kR (kA d8)
def d12 := kA (kA (kB d8))
def r13 := kR (kA d12)
def r21 := kR (kA (kA (kA (kB (kB d12)))))
def d22 := kB (kA (kA (kB (kB d12))))
def r23 := kR (kA d22)
def r25 := kR (kA (kB d22))
def r27 := kR (kB (kB (kB d12)))
def d28 := kB (kB (kA d4))
def r30 := kR (kA (kA d28))
def r35 := kR (kA (kB d28))
def d37 := kA (kB (kB d28))
def r38 := kR (kA d37)
def d41 := kA (kA (kB d37))
def r42 := kR (kA d41)
def r50 := kR (kA (kA (kA (kB (kB d41)))))
def d51 := kB (kA (kA (kB (kB d41))))
def r52 := kR (kA d51)
def r54 := kR (kA (kB d51))
def r56 := kR (kB (kB (kB d41)))
def r58 := kR (kA (kB (kB (kB d28))))
def c57 : Code := .seq (.region 16 r58 false) (.cond (.tmp 74) .ret .skip)
def c56 : Code := .region 15 r56 false
def c53 : Code := .cond (.tmp 64) (.region 14 r54 false) .skip
def c41 : Code := .seq (.region 11 r42 false) (.seq (.cond (.tmp 51) .skip (.exit 4)) (.seq (.block 5 (.seq (.region 12 r50 false) (.seq (.region 13 r52 false) c53))) c56))
def c28 : Code := .seq (.seq (.region 8 r30 false) (.cond (.tmp 41) .ret .skip)) (.seq (.region 9 r35 false) (.seq (.seq (.region 10 r38 false) (.block 4 (.loop c41))) c57))
def c27 : Code := .region 7 r27 false
def c24 : Code := .cond (.tmp 37) (.region 6 r25 false) .skip
def c12 : Code := .seq (.region 3 r13 false) (.seq (.cond (.tmp 15) .skip (.exit 2)) (.seq (.block 3 (.seq (.region 4 r21 false) (.seq (.region 5 r23 true) c24))) c27))
def c4 : Code := .block 1 (.seq (.region 1 r6 false) (.seq (.seq (.region 2 r9 false) (.block 2 (.loop c12))) c28))
def c0 : Code := .seq (.region 0 r1 false) (.block 0 (.loop c4))
theorem body : Tryz.f88.body = some c0 := by kernel_rfl
section
variable {base : Nat} {W0 : World} {β0 : Bt}
def J3 (D : Dp) (H : Hd) (k : Nat) (rec0 : HV → Sl → Int → Sl → Int → Int → HS → Option ((Unit) × HS)) (rec1 : HV → Sl → HS → Option ((Unit) × HS)) (y0 : HV) (y3 : Sl) (y4 : Int) (y12 : Sl) (y13 : Int) (y14 : Int) (S : HS) : Option ((Unit) × HS) :=
 rec0 y0 y3 y4 y12 y13 (w64 (y14 + 1)) S
theorem J3_snd {rec0 : HV → Sl → Int → Sl → Int → Int → HS → Option ((Unit) × HS)} {rec1 : HV → Sl → HS → Option ((Unit) × HS)} (hD : DSound Tryz.prog base W0 D) (hH : HSound Tryz.prog base W0 β0 H) (hrec0 : ∀ ⦃y0 : HV⦄ ⦃y3 : Sl⦄ ⦃y4 : Int⦄ ⦃y12 : Sl⦄ ⦃y13 : Int⦄ ⦃y14 : Int⦄ ⦃S : HS⦄ ⦃p : (Unit) × HS⦄ ⦃Gb Gc Gf Gg Gh Gi Gj Gk Gl Gp Gq Gr Gs Gt Gu Gv Gw Gx Gy Gz Ka Kb Kc Kd Ke Kf Kg Kh Ki Kj Kk Kl Km Kn Ko Kp Kq Kr Ks Kt Ku Kv Kw Kx Ky Kz Ma Mb Mc Md Me Mf Mg Mh Mi Mj Mk Ml Mm Mn Mo Mp Mq Mr Ms Mt Mu Mv Mw : HV⦄,rec0 y0 y3 y4 y12 y13 y14 S = some p → HRun Tryz.prog base W0 β0 88 none [.inLoop c12,.inBlock 2,.code c28,.inBlock 1,.inLoop c4,.inBlock 0] ⟨[y0,Gb,Gc,(Sl.hv y3),(.int .i64 y4),Gf,Gg,Gh,Gi,Gj,Gk,Gl,(Sl.hv y12),(.int .i64 y13),(.int .i64 y14),Gp,Gq,Gr,Gs,Gt,Gu,Gv,Gw,Gx,Gy,Gz,Ka,Kb,Kc,Kd,Ke,Kf,Kg,Kh,Ki,Kj,Kk,Kl,Km,Kn,Ko,Kp,Kq,Kr,Ks,Kt,Ku,Kv,Kw,Kx,Ky,Kz,Ma,Mb,Mc,Md,Me,Mf,Mg,Mh,Mi,Mj,Mk,Ml,Mm,Mn,Mo,Mp,Mq,Mr,Ms,Mt,Mu,Mv,Mw],[]⟩ S (fun v S1 => v = (.tup []) ∧ S1 = p.2)) (hrec1 : ∀ ⦃y0 : HV⦄ ⦃y3 : Sl⦄ ⦃S : HS⦄ ⦃p : (Unit) × HS⦄ ⦃Gb Gc Ge Gf Gg Gh Gi Gj Gk Gl Gm Gn Go Gp Gq Gr Gs Gt Gu Gv Gw Gx Gy Gz Ka Kb Kc Kd Ke Kf Kg Kh Ki Kj Kk Kl Km Kn Ko Kp Kq Kr Ks Kt Ku Kv Kw Kx Ky Kz Ma Mb Mc Md Me Mf Mg Mh Mi Mj Mk Ml Mm Mn Mo Mp Mq Mr Ms Mt Mu Mv Mw : HV⦄,rec1 y0 y3 S = some p → HRun Tryz.prog base W0 β0 88 none [.inLoop c4,.inBlock 0] ⟨[y0,Gb,Gc,(Sl.hv y3),Ge,Gf,Gg,Gh,Gi,Gj,Gk,Gl,Gm,Gn,Go,Gp,Gq,Gr,Gs,Gt,Gu,Gv,Gw,Gx,Gy,Gz,Ka,Kb,Kc,Kd,Ke,Kf,Kg,Kh,Ki,Kj,Kk,Kl,Km,Kn,Ko,Kp,Kq,Kr,Ks,Kt,Ku,Kv,Kw,Kx,Ky,Kz,Ma,Mb,Mc,Md,Me,Mf,Mg,Mh,Mi,Mj,Mk,Ml,Mm,Mn,Mo,Mp,Mq,Mr,Ms,Mt,Mu,Mv,Mw],[]⟩ S (fun v S1 => v = (.tup []) ∧ S1 = p.2)) {y0 : HV} {y3 : Sl} {y4 : Int} {y12 : Sl} {y13 : Int} {y14 : Int} {S : HS} {p : (Unit) × HS} (h : J3 D H k rec0 rec1 y0 y3 y4 y12 y13 y14 S = some p) : HRun Tryz.prog base W0 β0 88 none [.code c27,.inLoop c12,.inBlock 2,.code c28,.inBlock 1,.inLoop c4,.inBlock 0] ⟨[y0,Gb,Gc,(Sl.hv y3),(.int .i64 y4),Gf,Gg,Gh,Gi,Gj,Gk,Gl,(Sl.hv y12),(.int .i64 y13),(.int .i64 y14),Gp,Gq,Gr,Gs,Gt,Gu,Gv,Gw,Gx,Gy,Gz,Ka,Kb,Kc,Kd,Ke,Kf,Kg,Kh,Ki,Kj,Kk,Kl,Km,Kn,Ko,Kp,Kq,Kr,Ks,Kt,Ku,Kv,Kw,Kx,Ky,Kz,Ma,Mb,Mc,Md,Me,Mf,Mg,Mh,Mi,Mj,Mk,Ml,Mm,Mn,Mo,Mp,Mq,Mr,Ms,Mt,Mu,Mv,Mw],[]⟩ S (fun v S1 => v = (.tup []) ∧ S1 = p.2) := by
 unfold J3 at h
 refine qR rfl rfl (qS 39 rfl (oC · rfl rfl) (qS 14 rfl (oM · rfl) (rE ?_)))
 try dsimp only [w0,w1,w2,w3]
 exact hrec0 h
def J2 (D : Dp) (H : Hd) (k : Nat) (rec0 : HV → Sl → Int → Sl → Int → Int → HS → Option ((Unit) × HS)) (rec1 : HV → Sl → HS → Option ((Unit) × HS)) (y0 : HV) (y3 : Sl) (y4 : Int) (y5 : Int) (y12 : Sl) (y13 : Int) (y14 : Int) (y37 : Bool) (S : HS) : Option ((Unit) × HS) :=
 (if y37 = true then
 J3 D H k rec0 rec1 y0 y3 y5 y12 y13 y14 S else
 J3 D H k rec0 rec1 y0 y3 y4 y12 y13 y14 S)
theorem J2_snd {rec0 : HV → Sl → Int → Sl → Int → Int → HS → Option ((Unit) × HS)} {rec1 : HV → Sl → HS → Option ((Unit) × HS)} (hD : DSound Tryz.prog base W0 D) (hH : HSound Tryz.prog base W0 β0 H) (hrec0 : ∀ ⦃y0 : HV⦄ ⦃y3 : Sl⦄ ⦃y4 : Int⦄ ⦃y12 : Sl⦄ ⦃y13 : Int⦄ ⦃y14 : Int⦄ ⦃S : HS⦄ ⦃p : (Unit) × HS⦄ ⦃Gb Gc Gf Gg Gh Gi Gj Gk Gl Gp Gq Gr Gs Gt Gu Gv Gw Gx Gy Gz Ka Kb Kc Kd Ke Kf Kg Kh Ki Kj Kk Kl Km Kn Ko Kp Kq Kr Ks Kt Ku Kv Kw Kx Ky Kz Ma Mb Mc Md Me Mf Mg Mh Mi Mj Mk Ml Mm Mn Mo Mp Mq Mr Ms Mt Mu Mv Mw : HV⦄,rec0 y0 y3 y4 y12 y13 y14 S = some p → HRun Tryz.prog base W0 β0 88 none [.inLoop c12,.inBlock 2,.code c28,.inBlock 1,.inLoop c4,.inBlock 0] ⟨[y0,Gb,Gc,(Sl.hv y3),(.int .i64 y4),Gf,Gg,Gh,Gi,Gj,Gk,Gl,(Sl.hv y12),(.int .i64 y13),(.int .i64 y14),Gp,Gq,Gr,Gs,Gt,Gu,Gv,Gw,Gx,Gy,Gz,Ka,Kb,Kc,Kd,Ke,Kf,Kg,Kh,Ki,Kj,Kk,Kl,Km,Kn,Ko,Kp,Kq,Kr,Ks,Kt,Ku,Kv,Kw,Kx,Ky,Kz,Ma,Mb,Mc,Md,Me,Mf,Mg,Mh,Mi,Mj,Mk,Ml,Mm,Mn,Mo,Mp,Mq,Mr,Ms,Mt,Mu,Mv,Mw],[]⟩ S (fun v S1 => v = (.tup []) ∧ S1 = p.2)) (hrec1 : ∀ ⦃y0 : HV⦄ ⦃y3 : Sl⦄ ⦃S : HS⦄ ⦃p : (Unit) × HS⦄ ⦃Gb Gc Ge Gf Gg Gh Gi Gj Gk Gl Gm Gn Go Gp Gq Gr Gs Gt Gu Gv Gw Gx Gy Gz Ka Kb Kc Kd Ke Kf Kg Kh Ki Kj Kk Kl Km Kn Ko Kp Kq Kr Ks Kt Ku Kv Kw Kx Ky Kz Ma Mb Mc Md Me Mf Mg Mh Mi Mj Mk Ml Mm Mn Mo Mp Mq Mr Ms Mt Mu Mv Mw : HV⦄,rec1 y0 y3 S = some p → HRun Tryz.prog base W0 β0 88 none [.inLoop c4,.inBlock 0] ⟨[y0,Gb,Gc,(Sl.hv y3),Ge,Gf,Gg,Gh,Gi,Gj,Gk,Gl,Gm,Gn,Go,Gp,Gq,Gr,Gs,Gt,Gu,Gv,Gw,Gx,Gy,Gz,Ka,Kb,Kc,Kd,Ke,Kf,Kg,Kh,Ki,Kj,Kk,Kl,Km,Kn,Ko,Kp,Kq,Kr,Ks,Kt,Ku,Kv,Kw,Kx,Ky,Kz,Ma,Mb,Mc,Md,Me,Mf,Mg,Mh,Mi,Mj,Mk,Ml,Mm,Mn,Mo,Mp,Mq,Mr,Ms,Mt,Mu,Mv,Mw],[]⟩ S (fun v S1 => v = (.tup []) ∧ S1 = p.2)) {y0 : HV} {y3 : Sl} {y4 : Int} {y5 : Int} {y12 : Sl} {y13 : Int} {y14 : Int} {y37 : Bool} {S : HS} {p : (Unit) × HS} (h : J2 D H k rec0 rec1 y0 y3 y4 y5 y12 y13 y14 y37 S = some p) : HRun Tryz.prog base W0 β0 88 none [.code c24,.inBlock 3,.code c27,.inLoop c12,.inBlock 2,.code c28,.inBlock 1,.inLoop c4,.inBlock 0] ⟨[y0,Gb,Gc,(Sl.hv y3),(.int .i64 y4),(.int .i64 y5),Gg,Gh,Gi,Gj,Gk,Gl,(Sl.hv y12),(.int .i64 y13),(.int .i64 y14),Gp,Gq,Gr,Gs,Gt,Gu,Gv,Gw,Gx,Gy,Gz,Ka,Kb,Kc,Kd,Ke,Kf,Kg,Kh,Ki,Kj,Kk,(.bool y37),Km,Kn,Ko,Kp,Kq,Kr,Ks,Kt,Ku,Kv,Kw,Kx,Ky,Kz,Ma,Mb,Mc,Md,Me,Mf,Mg,Mh,Mi,Mj,Mk,Ml,Mm,Mn,Mo,Mp,Mq,Mr,Ms,Mt,Mu,Mv,Mw],[]⟩ S (fun v S1 => v = (.tup []) ∧ S1 = p.2) := by
 unfold J2 at h
 rcases ifc h with ⟨hc9,h⟩ | ⟨hc9,h⟩
 ·refine q_cond_t rfl (.tmp rfl) hc9 (qR rfl rfl (qS 38 rfl (oM · rfl) (qS 4 rfl (oA · rfl) (rE ?_))))
  try dsimp only [w0,w1,w2,w3]
  refine hr_inBlock ?_
  try dsimp only [w0,w1,w2,w3]
  exact J3_snd hD hH hrec0 hrec1 h
 ·refine q_cond_f rfl (.tmp rfl) (bfalse hc9) (q_skipc rfl (hr_inBlock ?_))
  try dsimp only [w0,w1,w2,w3]
  exact J3_snd hD hH hrec0 hrec1 h
def J6 (D : Dp) (H : Hd) (k : Nat) (rec0 : HV → Sl → Int → Sl → Int → Int → HS → Option ((Unit) × HS)) (rec1 : HV → Sl → HS → Option ((Unit) × HS)) (y0 : HV) (y3 : Sl) (y7 : Int) (y48 : Sl) (y49 : Int) (y50 : Int) (S : HS) : Option ((Unit) × HS) :=
 rec0 y0 y3 y7 y48 y49 (w64 (y50 + 1)) S
theorem J6_snd {rec0 : HV → Sl → Int → Sl → Int → Int → HS → Option ((Unit) × HS)} {rec1 : HV → Sl → HS → Option ((Unit) × HS)} (hD : DSound Tryz.prog base W0 D) (hH : HSound Tryz.prog base W0 β0 H) (hrec0 : ∀ ⦃y0 : HV⦄ ⦃y3 : Sl⦄ ⦃y7 : Int⦄ ⦃y48 : Sl⦄ ⦃y49 : Int⦄ ⦃y50 : Int⦄ ⦃S : HS⦄ ⦃p : (Unit) × HS⦄ ⦃Gb Gc Ge Gf Gg Gi Gj Gk Gl Gm Gn Go Gp Gq Gr Gs Gt Gu Gv Gw Gx Gy Gz Ka Kb Kc Kd Ke Kf Kg Kh Ki Kj Kk Kl Km Kn Ko Kp Kq Kr Ks Kt Ku Kv Kz Ma Mb Mc Md Me Mf Mg Mh Mi Mj Mk Ml Mm Mn Mo Mp Mq Mr Ms Mt Mu Mv Mw : HV⦄,rec0 y0 y3 y7 y48 y49 y50 S = some p → HRun Tryz.prog base W0 β0 88 none [.inLoop c41,.inBlock 4,.code c57,.inBlock 1,.inLoop c4,.inBlock 0] ⟨[y0,Gb,Gc,(Sl.hv y3),Ge,Gf,Gg,(.int .i64 y7),Gi,Gj,Gk,Gl,Gm,Gn,Go,Gp,Gq,Gr,Gs,Gt,Gu,Gv,Gw,Gx,Gy,Gz,Ka,Kb,Kc,Kd,Ke,Kf,Kg,Kh,Ki,Kj,Kk,Kl,Km,Kn,Ko,Kp,Kq,Kr,Ks,Kt,Ku,Kv,(Sl.hv y48),(.int .i64 y49),(.int .i64 y50),Kz,Ma,Mb,Mc,Md,Me,Mf,Mg,Mh,Mi,Mj,Mk,Ml,Mm,Mn,Mo,Mp,Mq,Mr,Ms,Mt,Mu,Mv,Mw],[]⟩ S (fun v S1 => v = (.tup []) ∧ S1 = p.2)) (hrec1 : ∀ ⦃y0 : HV⦄ ⦃y3 : Sl⦄ ⦃S : HS⦄ ⦃p : (Unit) × HS⦄ ⦃Gb Gc Ge Gf Gg Gh Gi Gj Gk Gl Gm Gn Go Gp Gq Gr Gs Gt Gu Gv Gw Gx Gy Gz Ka Kb Kc Kd Ke Kf Kg Kh Ki Kj Kk Kl Km Kn Ko Kp Kq Kr Ks Kt Ku Kv Kw Kx Ky Kz Ma Mb Mc Md Me Mf Mg Mh Mi Mj Mk Ml Mm Mn Mo Mp Mq Mr Ms Mt Mu Mv Mw : HV⦄,rec1 y0 y3 S = some p → HRun Tryz.prog base W0 β0 88 none [.inLoop c4,.inBlock 0] ⟨[y0,Gb,Gc,(Sl.hv y3),Ge,Gf,Gg,Gh,Gi,Gj,Gk,Gl,Gm,Gn,Go,Gp,Gq,Gr,Gs,Gt,Gu,Gv,Gw,Gx,Gy,Gz,Ka,Kb,Kc,Kd,Ke,Kf,Kg,Kh,Ki,Kj,Kk,Kl,Km,Kn,Ko,Kp,Kq,Kr,Ks,Kt,Ku,Kv,Kw,Kx,Ky,Kz,Ma,Mb,Mc,Md,Me,Mf,Mg,Mh,Mi,Mj,Mk,Ml,Mm,Mn,Mo,Mp,Mq,Mr,Ms,Mt,Mu,Mv,Mw],[]⟩ S (fun v S1 => v = (.tup []) ∧ S1 = p.2)) {y0 : HV} {y3 : Sl} {y7 : Int} {y48 : Sl} {y49 : Int} {y50 : Int} {S : HS} {p : (Unit) × HS} (h : J6 D H k rec0 rec1 y0 y3 y7 y48 y49 y50 S = some p) : HRun Tryz.prog base W0 β0 88 none [.code c56,.inLoop c41,.inBlock 4,.code c57,.inBlock 1,.inLoop c4,.inBlock 0] ⟨[y0,Gb,Gc,(Sl.hv y3),Ge,Gf,Gg,(.int .i64 y7),Gi,Gj,Gk,Gl,Gm,Gn,Go,Gp,Gq,Gr,Gs,Gt,Gu,Gv,Gw,Gx,Gy,Gz,Ka,Kb,Kc,Kd,Ke,Kf,Kg,Kh,Ki,Kj,Kk,Kl,Km,Kn,Ko,Kp,Kq,Kr,Ks,Kt,Ku,Kv,(Sl.hv y48),(.int .i64 y49),(.int .i64 y50),Kz,Ma,Mb,Mc,Md,Me,Mf,Mg,Mh,Mi,Mj,Mk,Ml,Mm,Mn,Mo,Mp,Mq,Mr,Ms,Mt,Mu,Mv,Mw],[]⟩ S (fun v S1 => v = (.tup []) ∧ S1 = p.2) := by
 unfold J6 at h
 refine qR rfl rfl (qS 70 rfl (oC · rfl rfl) (qS 50 rfl (oM · rfl) (rE ?_)))
 try dsimp only [w0,w1,w2,w3]
 exact hrec0 h
def J5 (D : Dp) (H : Hd) (k : Nat) (rec0 : HV → Sl → Int → Sl → Int → Int → HS → Option ((Unit) × HS)) (rec1 : HV → Sl → HS → Option ((Unit) × HS)) (y0 : HV) (y3 : Sl) (y7 : Int) (y8 : Int) (y9 : Sl) (y48 : Sl) (y49 : Int) (y50 : Int) (y64 : Bool) (S : HS) : Option ((Unit) × HS) :=
 (if y64 = true then
 (Option.bind (HS.cut S y9 1 (Sl.len y9 : Int) 1) fun p28 =>
 (Option.bind (HS.idx S y3 y8 1) fun p29 =>
 (Option.bind (HS.sets S p29 [(Sl.hv p28)]) fun p30 =>
 J6 D H k rec0 rec1 y0 y3 y7 y48 y49 y50 p30))) else
 J6 D H k rec0 rec1 y0 y3 y7 y48 y49 y50 S)
theorem J5_snd {rec0 : HV → Sl → Int → Sl → Int → Int → HS → Option ((Unit) × HS)} {rec1 : HV → Sl → HS → Option ((Unit) × HS)} (hD : DSound Tryz.prog base W0 D) (hH : HSound Tryz.prog base W0 β0 H) (hrec0 : ∀ ⦃y0 : HV⦄ ⦃y3 : Sl⦄ ⦃y7 : Int⦄ ⦃y48 : Sl⦄ ⦃y49 : Int⦄ ⦃y50 : Int⦄ ⦃S : HS⦄ ⦃p : (Unit) × HS⦄ ⦃Gb Gc Ge Gf Gg Gi Gj Gk Gl Gm Gn Go Gp Gq Gr Gs Gt Gu Gv Gw Gx Gy Gz Ka Kb Kc Kd Ke Kf Kg Kh Ki Kj Kk Kl Km Kn Ko Kp Kq Kr Ks Kt Ku Kv Kz Ma Mb Mc Md Me Mf Mg Mh Mi Mj Mk Ml Mm Mn Mo Mp Mq Mr Ms Mt Mu Mv Mw : HV⦄,rec0 y0 y3 y7 y48 y49 y50 S = some p → HRun Tryz.prog base W0 β0 88 none [.inLoop c41,.inBlock 4,.code c57,.inBlock 1,.inLoop c4,.inBlock 0] ⟨[y0,Gb,Gc,(Sl.hv y3),Ge,Gf,Gg,(.int .i64 y7),Gi,Gj,Gk,Gl,Gm,Gn,Go,Gp,Gq,Gr,Gs,Gt,Gu,Gv,Gw,Gx,Gy,Gz,Ka,Kb,Kc,Kd,Ke,Kf,Kg,Kh,Ki,Kj,Kk,Kl,Km,Kn,Ko,Kp,Kq,Kr,Ks,Kt,Ku,Kv,(Sl.hv y48),(.int .i64 y49),(.int .i64 y50),Kz,Ma,Mb,Mc,Md,Me,Mf,Mg,Mh,Mi,Mj,Mk,Ml,Mm,Mn,Mo,Mp,Mq,Mr,Ms,Mt,Mu,Mv,Mw],[]⟩ S (fun v S1 => v = (.tup []) ∧ S1 = p.2)) (hrec1 : ∀ ⦃y0 : HV⦄ ⦃y3 : Sl⦄ ⦃S : HS⦄ ⦃p : (Unit) × HS⦄ ⦃Gb Gc Ge Gf Gg Gh Gi Gj Gk Gl Gm Gn Go Gp Gq Gr Gs Gt Gu Gv Gw Gx Gy Gz Ka Kb Kc Kd Ke Kf Kg Kh Ki Kj Kk Kl Km Kn Ko Kp Kq Kr Ks Kt Ku Kv Kw Kx Ky Kz Ma Mb Mc Md Me Mf Mg Mh Mi Mj Mk Ml Mm Mn Mo Mp Mq Mr Ms Mt Mu Mv Mw : HV⦄,rec1 y0 y3 S = some p → HRun Tryz.prog base W0 β0 88 none [.inLoop c4,.inBlock 0] ⟨[y0,Gb,Gc,(Sl.hv y3),Ge,Gf,Gg,Gh,Gi,Gj,Gk,Gl,Gm,Gn,Go,Gp,Gq,Gr,Gs,Gt,Gu,Gv,Gw,Gx,Gy,Gz,Ka,Kb,Kc,Kd,Ke,Kf,Kg,Kh,Ki,Kj,Kk,Kl,Km,Kn,Ko,Kp,Kq,Kr,Ks,Kt,Ku,Kv,Kw,Kx,Ky,Kz,Ma,Mb,Mc,Md,Me,Mf,Mg,Mh,Mi,Mj,Mk,Ml,Mm,Mn,Mo,Mp,Mq,Mr,Ms,Mt,Mu,Mv,Mw],[]⟩ S (fun v S1 => v = (.tup []) ∧ S1 = p.2)) {y0 : HV} {y3 : Sl} {y7 : Int} {y8 : Int} {y9 : Sl} {y48 : Sl} {y49 : Int} {y50 : Int} {y64 : Bool} {S : HS} {p : (Unit) × HS} (h : J5 D H k rec0 rec1 y0 y3 y7 y8 y9 y48 y49 y50 y64 S = some p) : HRun Tryz.prog base W0 β0 88 none [.code c53,.inBlock 5,.code c56,.inLoop c41,.inBlock 4,.code c57,.inBlock 1,.inLoop c4,.inBlock 0] ⟨[y0,Gb,Gc,(Sl.hv y3),Ge,Gf,Gg,(.int .i64 y7),(.int .i64 y8),(Sl.hv y9),Gk,Gl,Gm,Gn,Go,Gp,Gq,Gr,Gs,Gt,Gu,Gv,Gw,Gx,Gy,Gz,Ka,Kb,Kc,Kd,Ke,Kf,Kg,Kh,Ki,Kj,Kk,Kl,Km,Kn,Ko,Kp,Kq,Kr,Ks,Kt,Ku,Kv,(Sl.hv y48),(.int .i64 y49),(.int .i64 y50),Kz,Ma,Mb,Mc,Md,Me,Mf,Mg,Mh,Mi,Mj,Mk,Ml,(.bool y64),Mn,Mo,Mp,Mq,Mr,Ms,Mt,Mu,Mv,Mw],[]⟩ S (fun v S1 => v = (.tup []) ∧ S1 = p.2) := by
 unfold J5 at h
 rcases ifc h with ⟨hc27,h⟩ | ⟨hc27,h⟩
 ·obtain ⟨p28,hp28,h⟩ := bindo h
  refine q_cond_t rfl (.tmp rfl) hc27 (qR rfl rfl (qS 65 rfl (oM · rfl) (qS 66 rfl (oM · rfl) (qS 67 rfl (oM · rfl) (qS 68 rfl (ok_slice (kl := .i64) (kh := .i64) (s := y9) (l := 1) (h := (Sl.len y9 : Int)) · tu42 si3 (.tmp rfl) (.inr ⟨_,rfl,(.int _ _)⟩) (.inl ⟨rfl,rfl⟩) hp28) ?_)))))
  try dsimp only [w0,w1,w2,w3]
  obtain ⟨p29,hp29,h⟩ := bindo h
  obtain ⟨p30,hp30,h⟩ := bindo h
  refine qS 69 rfl (oX (s := y3) · tu144 sz42 rfl rfl hp29) (qN rfl (ok_store_s (v := (Sl.hv p28)) · sz42 (.tmp rfl) rfl (.tmp rfl) rfl hp30) (rE ?_))
  try dsimp only [w0,w1,w2,w3]
  refine hr_inBlock ?_
  try dsimp only [w0,w1,w2,w3]
  exact J6_snd hD hH hrec0 hrec1 h
 ·refine q_cond_f rfl (.tmp rfl) (bfalse hc27) (q_skipc rfl (hr_inBlock ?_))
  try dsimp only [w0,w1,w2,w3]
  exact J6_snd hD hH hrec0 hrec1 h
def L4 (D : Dp) (H : Hd) (k : Nat) (rec0 : HV → Sl → HS → Option ((Unit) × HS)) : Nat → HV → Sl → Int → Sl → Int → Int → HS → Option ((Unit) × HS)
 | 0,_,_,_,_,_,_,_ => none
 | n + 1,y0,y3,y7,y48,y49,y50,S =>
  (if y50 < y49 then
  (Option.bind (HS.idx S y48 y50 1) fun p22 =>
  (Option.bind (HS.ldSl S p22) fun p23 =>
  (if (Sl.len p23 : Int) > 0 then
  (Option.bind (HS.idx S p23 0 1) fun p25 =>
  (Option.bind (HS.ldI S .i64 p25) fun p26 =>
  J5 D H k (L4 D H k rec0 n) rec0 y0 y3 y7 y50 p23 y48 y49 y50 (decide (p26 = y7)) S)) else
  J5 D H k (L4 D H k rec0 n) rec0 y0 y3 y7 y50 p23 y48 y49 y50 false S))) else
  (Option.bind (D H y0 [(.int .i64 y7)] S) fun p31 =>
  (Option.bind (dB p31.1) fun p32 =>
  (if (!p32) = true then
  some ((),p31.2) else
  rec0 y0 y3 p31.2))))
theorem L4_snd {rec0 : HV → Sl → HS → Option ((Unit) × HS)} (hD : DSound Tryz.prog base W0 D) (hH : HSound Tryz.prog base W0 β0 H) (hrec0 : ∀ ⦃y0 : HV⦄ ⦃y3 : Sl⦄ ⦃S : HS⦄ ⦃p : (Unit) × HS⦄ ⦃Gb Gc Ge Gf Gg Gh Gi Gj Gk Gl Gm Gn Go Gp Gq Gr Gs Gt Gu Gv Gw Gx Gy Gz Ka Kb Kc Kd Ke Kf Kg Kh Ki Kj Kk Kl Km Kn Ko Kp Kq Kr Ks Kt Ku Kv Kw Kx Ky Kz Ma Mb Mc Md Me Mf Mg Mh Mi Mj Mk Ml Mm Mn Mo Mp Mq Mr Ms Mt Mu Mv Mw : HV⦄,rec0 y0 y3 S = some p → HRun Tryz.prog base W0 β0 88 none [.inLoop c4,.inBlock 0] ⟨[y0,Gb,Gc,(Sl.hv y3),Ge,Gf,Gg,Gh,Gi,Gj,Gk,Gl,Gm,Gn,Go,Gp,Gq,Gr,Gs,Gt,Gu,Gv,Gw,Gx,Gy,Gz,Ka,Kb,Kc,Kd,Ke,Kf,Kg,Kh,Ki,Kj,Kk,Kl,Km,Kn,Ko,Kp,Kq,Kr,Ks,Kt,Ku,Kv,Kw,Kx,Ky,Kz,Ma,Mb,Mc,Md,Me,Mf,Mg,Mh,Mi,Mj,Mk,Ml,Mm,Mn,Mo,Mp,Mq,Mr,Ms,Mt,Mu,Mv,Mw],[]⟩ S (fun v S1 => v = (.tup []) ∧ S1 = p.2)) : ∀ {n : Nat} ⦃y0 : HV⦄ ⦃y3 : Sl⦄ ⦃y7 : Int⦄ ⦃y48 : Sl⦄ ⦃y49 : Int⦄ ⦃y50 : Int⦄ ⦃S : HS⦄ ⦃p : (Unit) × HS⦄ ⦃Gb Gc Ge Gf Gg Gi Gj Gk Gl Gm Gn Go Gp Gq Gr Gs Gt Gu Gv Gw Gx Gy Gz Ka Kb Kc Kd Ke Kf Kg Kh Ki Kj Kk Kl Km Kn Ko Kp Kq Kr Ks Kt Ku Kv Kz Ma Mb Mc Md Me Mf Mg Mh Mi Mj Mk Ml Mm Mn Mo Mp Mq Mr Ms Mt Mu Mv Mw : HV⦄,L4 D H k rec0 n y0 y3 y7 y48 y49 y50 S = some p → HRun Tryz.prog base W0 β0 88 none [.inLoop c41,.inBlock 4,.code c57,.inBlock 1,.inLoop c4,.inBlock 0] ⟨[y0,Gb,Gc,(Sl.hv y3),Ge,Gf,Gg,(.int .i64 y7),Gi,Gj,Gk,Gl,Gm,Gn,Go,Gp,Gq,Gr,Gs,Gt,Gu,Gv,Gw,Gx,Gy,Gz,Ka,Kb,Kc,Kd,Ke,Kf,Kg,Kh,Ki,Kj,Kk,Kl,Km,Kn,Ko,Kp,Kq,Kr,Ks,Kt,Ku,Kv,(Sl.hv y48),(.int .i64 y49),(.int .i64 y50),Kz,Ma,Mb,Mc,Md,Me,Mf,Mg,Mh,Mi,Mj,Mk,Ml,Mm,Mn,Mo,Mp,Mq,Mr,Ms,Mt,Mu,Mv,Mw],[]⟩ S (fun v S1 => v = (.tup []) ∧ S1 = p.2) := by
 intro n
 induction n with
 | zero => intro _ _ _ _ _ _ _ _ _ _ _ _ _ _ _ _ _ _ _ _ _ _ _ _ _ _ _ _ _ _ _ _ _ _ _ _ _ _ _ _ _ _ _ _ _ _ _ _ _ _ _ _ _ _ _ _ _ _ _ _ _ _ _ _ _ _ _ _ _ _ _ _ _ _ _ _ _ h; cases h
 | succ n ih =>
  intro y0 y3 y7 y48 y49 y50 S p Gb Gc Ge Gf Gg Gi Gj Gk Gl Gm Gn Go Gp Gq Gr Gs Gt Gu Gv Gw Gx Gy Gz Ka Kb Kc Kd Ke Kf Kg Kh Ki Kj Kk Kl Km Kn Ko Kp Kq Kr Ks Kt Ku Kv Kz Ma Mb Mc Md Me Mf Mg Mh Mi Mj Mk Ml Mm Mn Mo Mp Mq Mr Ms Mt Mu Mv Mw h
  simp only [L4] at h
  refine hr_inLoop (qQ rfl (qR rfl rfl (qS 51 rfl (oB · rfl rfl rfl) (rE ?_))))
  try dsimp only [w0,w1,w2,w3]
  refine qQ rfl ?_
  rcases ifc h with ⟨hc21,h⟩ | ⟨hc21,h⟩
  ·obtain ⟨p22,hp22,h⟩ := bindo h
   obtain ⟨p23,hp23,h⟩ := bindo h
   refine q_cond_t rfl (.tmp rfl) (decide_eq_true hc21) (q_skipc rfl (qQ rfl (q_block rfl (qQ rfl (qR rfl rfl (qS 52 rfl (oM · rfl) (qS 53 rfl (oX (s := y48) · tu144 sz42 rfl rfl hp22) (qS 54 rfl (oL · sc42 rfl rfl (ldSl_out hp23)) (qS 8 rfl (oA · rfl) ?_)))))))))
   try dsimp only [w0,w1,w2,w3]
   refine qS 9 rfl (oA · rfl) (rE ?_)
   try dsimp only [w0,w1,w2,w3]
   refine qQ rfl (qR rfl rfl (qS 55 rfl (oM · rfl) (qS 56 rfl (ok_len_sl (q := Sl.a p23) (n := Sl.len p23) (z := Sl.cap p23) · rfl tu42 (.tmp rfl)) (qS 57 rfl (oC · rfl rfl) (qS 58 rfl (oM · rfl) ?_)))))
   try dsimp only [w0,w1,w2,w3]
   rcases ifc h with ⟨hc24,h⟩ | ⟨hc24,h⟩
   ·obtain ⟨p25,hp25,h⟩ := bindo h
    obtain ⟨p26,hp26,h⟩ := bindo h
    refine qG 58 59 rfl (decide_eq_true hc24) (oM · rfl) (qG 58 60 rfl (decide_eq_true hc24) (ok_indexAddr (s := p23) · tu42 sz3 (.tmp rfl) (.int _ _) hp25) (qG 58 61 rfl (decide_eq_true hc24) (oL · sc3 rfl rfl (ldI_out hp26)) (qG 58 62 rfl (decide_eq_true hc24) (oM · rfl) ?_)))
    try dsimp only [w0,w1,w2,w3]
    refine qG 58 63 rfl (decide_eq_true hc24) (oB · rfl rfl rfl) (qS 64 rfl (ok_pick_tt · (.tmp rfl) (decide_eq_true hc24) (.tmp rfl)) (rE ?_))
    try dsimp only [w0,w1,w2,w3]
    exact J5_snd hD hH ih hrec0 h
   ·refine q_skip (dst := some 59) (t := 58) rfl rfl rfl (decide_eq_false hc24) (q_skip (dst := some 60) (t := 58) rfl rfl rfl (decide_eq_false hc24) (q_skip (dst := some 61) (t := 58) rfl rfl rfl (decide_eq_false hc24) (q_skip (dst := some 62) (t := 58) rfl rfl rfl (decide_eq_false hc24) ?_)))
    try dsimp only [w0,w1,w2,w3]
    refine q_skip (dst := some 63) (t := 58) rfl rfl rfl (decide_eq_false hc24) (qS 64 rfl (ok_pick_ff · (.tmp rfl) (decide_eq_false hc24) (.bool _)) (rE ?_))
    try dsimp only [w0,w1,w2,w3]
    exact J5_snd hD hH ih hrec0 h
  ·obtain ⟨p31,hp31,h⟩ := bindo h
   obtain ⟨p32,hp32,h⟩ := bindo h
   refine q_cond_f rfl (.tmp rfl) (decide_eq_false hc21) (q_exit rfl rfl (qQ rfl (qR rfl rfl (qS 71 rfl (oM · rfl) (qS 72 rfl (oM · rfl) (q_call (dst := some 73) rfl (.tmp rfl) (.cons (.tmp rfl) Evs.nil) (hD _ _ hH _ _ _ _ _ hp31) ?_))))))
   rintro _ _ ⟨rfl,rfl⟩
   rw [dB_out hp32]
   refine qS 74 rfl (ok_not · (.tmp rfl)) (rE ?_)
   try dsimp only [w0,w1,w2,w3]
   rcases ifc h with ⟨hc33,h⟩ | ⟨hc33,h⟩
   ·cases h
    exact q_cond_t rfl (.tmp rfl) hc33 (q_ret rfl at_.at_ rfl (res0 rfl) ⟨rfl,rfl⟩)
   ·refine q_cond_f rfl (.tmp rfl) (bfalse hc33) (q_skipc rfl (hr_inBlock ?_))
    try dsimp only [w0,w1,w2,w3]
    exact hrec0 h
def L1 (D : Dp) (H : Hd) (k : Nat) (rec0 : HV → Sl → HS → Option ((Unit) × HS)) : Nat → HV → Sl → Int → Sl → Int → Int → HS → Option ((Unit) × HS)
 | 0,_,_,_,_,_,_,_ => none
 | n + 1,y0,y3,y4,y12,y13,y14,S =>
  (if y14 < y13 then
  (Option.bind (HS.idx S y12 y14 1) fun p5 =>
  (Option.bind (HS.ldSl S p5) fun p6 =>
  (if (Sl.len p6 : Int) > 0 then
  (if y4 < 0 then
  J2 D H k (L1 D H k rec0 n) rec0 y0 y3 y4 y14 y12 y13 y14 true S else
  (Option.bind (HS.idx S p6 0 1) fun p10 =>
  (Option.bind (HS.ldI S .i64 p10) fun p11 =>
  (Option.bind (HS.idx S y3 y4 1) fun p12 =>
  (Option.bind (HS.ldSl S p12) fun p13 =>
  (Option.bind (HS.idx S p13 0 1) fun p14 =>
  (Option.bind (HS.ldI S .i64 p14) fun p15 =>
  J2 D H k (L1 D H k rec0 n) rec0 y0 y3 y4 y14 y12 y13 y14 (decide (p11 < p15)) S))))))) else
  J2 D H k (L1 D H k rec0 n) rec0 y0 y3 y4 y14 y12 y13 y14 false S))) else
  (if y4 < 0 then
  some ((),S) else
  (Option.bind (HS.idx S y3 y4 1) fun p17 =>
  (Option.bind (HS.ldSl S p17) fun p18 =>
  (Option.bind (HS.idx S p18 0 1) fun p19 =>
  (Option.bind (HS.ldI S .i64 p19) fun p20 =>
  L4 D H k rec0 k y0 y3 p20 y3 (Sl.len y3 : Int) 0 S))))))
theorem L1_snd {rec0 : HV → Sl → HS → Option ((Unit) × HS)} (hD : DSound Tryz.prog base W0 D) (hH : HSound Tryz.prog base W0 β0 H) (hrec0 : ∀ ⦃y0 : HV⦄ ⦃y3 : Sl⦄ ⦃S : HS⦄ ⦃p : (Unit) × HS⦄ ⦃Gb Gc Ge Gf Gg Gh Gi Gj Gk Gl Gm Gn Go Gp Gq Gr Gs Gt Gu Gv Gw Gx Gy Gz Ka Kb Kc Kd Ke Kf Kg Kh Ki Kj Kk Kl Km Kn Ko Kp Kq Kr Ks Kt Ku Kv Kw Kx Ky Kz Ma Mb Mc Md Me Mf Mg Mh Mi Mj Mk Ml Mm Mn Mo Mp Mq Mr Ms Mt Mu Mv Mw : HV⦄,rec0 y0 y3 S = some p → HRun Tryz.prog base W0 β0 88 none [.inLoop c4,.inBlock 0] ⟨[y0,Gb,Gc,(Sl.hv y3),Ge,Gf,Gg,Gh,Gi,Gj,Gk,Gl,Gm,Gn,Go,Gp,Gq,Gr,Gs,Gt,Gu,Gv,Gw,Gx,Gy,Gz,Ka,Kb,Kc,Kd,Ke,Kf,Kg,Kh,Ki,Kj,Kk,Kl,Km,Kn,Ko,Kp,Kq,Kr,Ks,Kt,Ku,Kv,Kw,Kx,Ky,Kz,Ma,Mb,Mc,Md,Me,Mf,Mg,Mh,Mi,Mj,Mk,Ml,Mm,Mn,Mo,Mp,Mq,Mr,Ms,Mt,Mu,Mv,Mw],[]⟩ S (fun v S1 => v = (.tup []) ∧ S1 = p.2)) : ∀ {n : Nat} ⦃y0 : HV⦄ ⦃y3 : Sl⦄ ⦃y4 : Int⦄ ⦃y12 : Sl⦄ ⦃y13 : Int⦄ ⦃y14 : Int⦄ ⦃S : HS⦄ ⦃p : (Unit) × HS⦄ ⦃Gb Gc Gf Gg Gh Gi Gj Gk Gl Gp Gq Gr Gs Gt Gu Gv Gw Gx Gy Gz Ka Kb Kc Kd Ke Kf Kg Kh Ki Kj Kk Kl Km Kn Ko Kp Kq Kr Ks Kt Ku Kv Kw Kx Ky Kz Ma Mb Mc Md Me Mf Mg Mh Mi Mj Mk Ml Mm Mn Mo Mp Mq Mr Ms Mt Mu Mv Mw : HV⦄,L1 D H k rec0 n y0 y3 y4 y12 y13 y14 S = some p → HRun Tryz.prog base W0 β0 88 none [.inLoop c12,.inBlock 2,.code c28,.inBlock 1,.inLoop c4,.inBlock 0] ⟨[y0,Gb,Gc,(Sl.hv y3),(.int .i64 y4),Gf,Gg,Gh,Gi,Gj,Gk,Gl,(Sl.hv y12),(.int .i64 y13),(.int .i64 y14),Gp,Gq,Gr,Gs,Gt,Gu,Gv,Gw,Gx,Gy,Gz,Ka,Kb,Kc,Kd,Ke,Kf,Kg,Kh,Ki,Kj,Kk,Kl,Km,Kn,Ko,Kp,Kq,Kr,Ks,Kt,Ku,Kv,Kw,Kx,Ky,Kz,Ma,Mb,Mc,Md,Me,Mf,Mg,Mh,Mi,Mj,Mk,Ml,Mm,Mn,Mo,Mp,Mq,Mr,Ms,Mt,Mu,Mv,Mw],[]⟩ S (fun v S1 => v = (.tup []) ∧ S1 = p.2) := by
 intro n
 induction n with
 | zero => intro _ _ _ _ _ _ _ _ _ _ _ _ _ _ _ _ _ _ _ _ _ _ _ _ _ _ _ _ _ _ _ _ _ _ _ _ _ _ _ _ _ _ _ _ _ _ _ _ _ _ _ _ _ _ _ _ _ _ _ _ _ _ _ _ _ _ _ _ _ _ _ _ _ _ _ _ _ h; cases h
 | succ n ih =>
  intro y0 y3 y4 y12 y13 y14 S p Gb Gc Gf Gg Gh Gi Gj Gk Gl Gp Gq Gr Gs Gt Gu Gv Gw Gx Gy Gz Ka Kb Kc Kd Ke Kf Kg Kh Ki Kj Kk Kl Km Kn Ko Kp Kq Kr Ks Kt Ku Kv Kw Kx Ky Kz Ma Mb Mc Md Me Mf Mg Mh Mi Mj Mk Ml Mm Mn Mo Mp Mq Mr Ms Mt Mu Mv Mw h
  simp only [L1] at h
  refine hr_inLoop (qQ rfl (qR rfl rfl (qS 15 rfl (oB · rfl rfl rfl) (rE ?_))))
  try dsimp only [w0,w1,w2,w3]
  refine qQ rfl ?_
  rcases ifc h with ⟨hc4,h⟩ | ⟨hc4,h⟩
  ·obtain ⟨p5,hp5,h⟩ := bindo h
   obtain ⟨p6,hp6,h⟩ := bindo h
   refine q_cond_t rfl (.tmp rfl) (decide_eq_true hc4) (q_skipc rfl (qQ rfl (q_block rfl (qQ rfl (qR rfl rfl (qS 16 rfl (oM · rfl) (qS 17 rfl (oX (s := y12) · tu144 sz42 rfl rfl hp5) (qS 18 rfl (oL · sc42 rfl rfl (ldSl_out hp6)) (qS 5 rfl (oA · rfl) ?_)))))))))
   try dsimp only [w0,w1,w2,w3]
   refine qS 6 rfl (oA · rfl) (rE ?_)
   try dsimp only [w0,w1,w2,w3]
   refine qQ rfl ?_
   refine x_start (cls := [0,0,0,0,0,0,0,0,1,1,0,0,1,1,1,1,0,0,0]) (rk := [0,1,2,3,4,5,6,7,8,9,10,11,12,13,14,15,16,17,18]) rfl (by kernel_rfl) ?_
   refine yf 19 [6] rfl (oM · rfl) ?_
   refine yf 20 [19] rfl (ok_len_sl (q := Sl.a p6) (n := Sl.len p6) (z := Sl.cap p6) · rfl tu42 (.tmp rfl)) ?_
   refine yf 21 [20] rfl (oC · rfl rfl) ?_
   refine yf 22 [21] rfl (oM · rfl) ?_
   try dsimp only [w0,w1,w2,w3]
   rcases ifc h with ⟨hc7,h⟩ | ⟨hc7,h⟩
   ·refine yfg 23 22 [4,22] rfl (decide_eq_true hc7) (oM · rfl) ?_
    refine yfg 24 22 [23,22] rfl (decide_eq_true hc7) (oC · rfl rfl) ?_
    refine yfg 25 22 [24,22] rfl (decide_eq_true hc7) (oM · rfl) ?_
    rcases ifc h with ⟨hc8,h⟩ | ⟨hc8,h⟩
    ·refine yfs 26 25 [6,25] rfl (decide_eq_true hc8) ?_
     try dsimp only [w0,w1,w2,w3]
     refine yrs 27 25 [26,25] rfl (decide_eq_true hc8) ?_
     refine yrs 28 25 [27,25] rfl (decide_eq_true hc8) ?_
     refine yfs 29 25 [3,25] rfl (decide_eq_true hc8) ?_
     refine yfs 30 25 [4,25] rfl (decide_eq_true hc8) ?_
     try dsimp only [w0,w1,w2,w3]
     refine yrs 31 25 [29,30,25] rfl (decide_eq_true hc8) ?_
     refine yrs 32 25 [31,25] rfl (decide_eq_true hc8) ?_
     refine yrs 33 25 [32,25] rfl (decide_eq_true hc8) ?_
     refine yrs 34 25 [33,25] rfl (decide_eq_true hc8) ?_
     try dsimp only [w0,w1,w2,w3]
     refine yfs 35 25 [28,34,25] rfl (decide_eq_true hc8) ?_
     refine yfg 36 22 [25,35,22] rfl (decide_eq_true hc7) (ok_pick_tt · (.tmp rfl) (decide_eq_true hc8) (.bool _)) ?_
     refine yf 37 [22,36] rfl (ok_pick_tt · (.tmp rfl) (decide_eq_true hc7) (.tmp rfl)) ?_
     refine x_rest rfl ?_
     refine rE ?_
     try dsimp only [w0,w1,w2,w3]
     exact J2_snd hD hH ih hrec0 h
    ·refine yfg 26 25 [6,25] rfl (decide_eq_false hc8) (oM · rfl) ?_
     try dsimp only [w0,w1,w2,w3]
     obtain ⟨p10,hp10,h⟩ := bindo h
     refine yrg 27 25 [26,25] rfl (decide_eq_false hc8) (ok_indexAddr (s := p6) · tu42 sz3 (.tmp rfl) (.int _ _) hp10) ?_
     obtain ⟨p11,hp11,h⟩ := bindo h
     refine yrg 28 25 [27,25] rfl (decide_eq_false hc8) (oL · sc3 rfl rfl (ldI_out hp11)) ?_
     refine yfg 29 25 [3,25] rfl (decide_eq_false hc8) (oM · rfl) ?_
     refine yfg 30 25 [4,25] rfl (decide_eq_false hc8) (oM · rfl) ?_
     try dsimp only [w0,w1,w2,w3]
     obtain ⟨p12,hp12,h⟩ := bindo h
     refine yrg 31 25 [29,30,25] rfl (decide_eq_false hc8) (oX (s := y3) · tu144 sz42 rfl rfl hp12) ?_
     obtain ⟨p13,hp13,h⟩ := bindo h
     refine yrg 32 25 [31,25] rfl (decide_eq_false hc8) (oL · sc42 rfl rfl (ldSl_out hp13)) ?_
     obtain ⟨p14,hp14,h⟩ := bindo h
     refine yrg 33 25 [32,25] rfl (decide_eq_false hc8) (ok_indexAddr (s := p13) · tu42 sz3 (.tmp rfl) (.int _ _) hp14) ?_
     obtain ⟨p15,hp15,h⟩ := bindo h
     refine yrg 34 25 [33,25] rfl (decide_eq_false hc8) (oL · sc3 rfl rfl (ldI_out hp15)) ?_
     try dsimp only [w0,w1,w2,w3]
     refine yfg 35 25 [28,34,25] rfl (decide_eq_false hc8) (oB · rfl rfl rfl) ?_
     refine yfg 36 22 [25,35,22] rfl (decide_eq_true hc7) (ok_pick_ff · (.tmp rfl) (decide_eq_false hc8) (.tmp rfl)) ?_
     refine yf 37 [22,36] rfl (ok_pick_tt · (.tmp rfl) (decide_eq_true hc7) (.tmp rfl)) ?_
     refine x_rest rfl ?_
     refine rE ?_
     try dsimp only [w0,w1,w2,w3]
     exact J2_snd hD hH ih hrec0 h
   ·refine yfs 23 22 [4,22] rfl (decide_eq_false hc7) ?_
    refine yfs 24 22 [23,22] rfl (decide_eq_false hc7) ?_
    refine yfs 25 22 [24,22] rfl (decide_eq_false hc7) ?_
    refine x_go (f_skip_u (dst := some 26) (t := 25) (ts := [6,25]) rfl (by kernel_rfl) rfl rfl) rfl ?_
    try dsimp only [w0,w1,w2,w3]
    refine x_go (r_skip_u (dst := some 27) (t := 25) (ts := [26,25]) rfl (by kernel_rfl) rfl rfl) rfl ?_
    refine x_go (r_skip_u (dst := some 28) (t := 25) (ts := [27,25]) rfl (by kernel_rfl) rfl rfl) rfl ?_
    refine x_go (f_skip_u (dst := some 29) (t := 25) (ts := [3,25]) rfl (by kernel_rfl) rfl rfl) rfl ?_
    refine x_go (f_skip_u (dst := some 30) (t := 25) (ts := [4,25]) rfl (by kernel_rfl) rfl rfl) rfl ?_
    try dsimp only [w0,w1,w2,w3]
    refine x_go (r_skip_u (dst := some 31) (t := 25) (ts := [29,30,25]) rfl (by kernel_rfl) rfl rfl) rfl ?_
    refine x_go (r_skip_u (dst := some 32) (t := 25) (ts := [31,25]) rfl (by kernel_rfl) rfl rfl) rfl ?_
    refine x_go (r_skip_u (dst := some 33) (t := 25) (ts := [32,25]) rfl (by kernel_rfl) rfl rfl) rfl ?_
    refine x_go (r_skip_u (dst := some 34) (t := 25) (ts := [33,25]) rfl (by kernel_rfl) rfl rfl) rfl ?_
    try dsimp only [w0,w1,w2,w3]
    refine x_go (f_skip_u (dst := some 35) (t := 25) (ts := [28,34,25]) rfl (by kernel_rfl) rfl rfl) rfl ?_
    refine yfs 36 22 [25,35,22] rfl (decide_eq_false hc7) ?_
    refine yf 37 [22,36] rfl (ok_pick_ff · (.tmp rfl) (decide_eq_false hc7) (.bool _)) ?_
    refine x_rest rfl ?_
    refine rE ?_
    try dsimp only [w0,w1,w2,w3]
    exact J2_snd hD hH ih hrec0 h
  ·refine q_cond_f rfl (.tmp rfl) (decide_eq_false hc4) (q_exit rfl rfl (qQ rfl (qQ rfl (qR rfl rfl (qS 40 rfl (oM · rfl) (qS 41 rfl (oC · rfl rfl) (rE ?_)))))))
   try dsimp only [w0,w1,w2,w3]
   rcases ifc h with ⟨hc16,h⟩ | ⟨hc16,h⟩
   ·cases h
    exact q_cond_t rfl (.tmp rfl) (decide_eq_true hc16) (q_ret rfl at_.at_ rfl (res0 rfl) ⟨rfl,rfl⟩)
   ·obtain ⟨p17,hp17,h⟩ := bindo h
    obtain ⟨p18,hp18,h⟩ := bindo h
    refine q_cond_f rfl (.tmp rfl) (decide_eq_false hc16) (q_skipc rfl (qQ rfl (qR rfl rfl (qS 42 rfl (oM · rfl) (qS 43 rfl (oM · rfl) (qS 44 rfl (oX (s := y3) · tu144 sz42 rfl rfl hp17) (qS 45 rfl (oL · sc42 rfl rfl (ldSl_out hp18)) ?_)))))))
    try dsimp only [w0,w1,w2,w3]
    obtain ⟨p19,hp19,h⟩ := bindo h
    obtain ⟨p20,hp20,h⟩ := bindo h
    refine qS 46 rfl (ok_indexAddr (s := p18) · tu42 sz3 (.tmp rfl) (.int _ _) hp19) (qS 47 rfl (oL · sc3 rfl rfl (ldI_out hp20)) (qS 7 rfl (oA · rfl) (rE ?_)))
    try dsimp only [w0,w1,w2,w3]
    refine qQ rfl (qQ rfl (qR rfl rfl (qS 48 rfl (oM · rfl) (qS 49 rfl (ok_len_sl (q := Sl.a y3) (n := Sl.len y3) (z := Sl.cap y3) · rfl tu144 (.tmp rfl)) (qS 50 rfl (ok_move · (.int _ _)) (rE ?_))))))
    try dsimp only [w0,w1,w2,w3]
    refine q_block rfl (q_loop rfl ?_)
    try dsimp only [w0,w1,w2,w3]
    exact L4_snd hD hH hrec0 h
def L0 (D : Dp) (H : Hd) (k : Nat) : Nat → HV → Sl → HS → Option ((Unit) × HS)
 | 0,_,_,_ => none
 | n + 1,y0,y3,S =>
  L1 D H k (L0 D H k n) k y0 y3 (-1) y3 (Sl.len y3 : Int) 0 S
theorem L0_snd (hD : DSound Tryz.prog base W0 D) (hH : HSound Tryz.prog base W0 β0 H)  : ∀ {n : Nat} ⦃y0 : HV⦄ ⦃y3 : Sl⦄ ⦃S : HS⦄ ⦃p : (Unit) × HS⦄ ⦃Gb Gc Ge Gf Gg Gh Gi Gj Gk Gl Gm Gn Go Gp Gq Gr Gs Gt Gu Gv Gw Gx Gy Gz Ka Kb Kc Kd Ke Kf Kg Kh Ki Kj Kk Kl Km Kn Ko Kp Kq Kr Ks Kt Ku Kv Kw Kx Ky Kz Ma Mb Mc Md Me Mf Mg Mh Mi Mj Mk Ml Mm Mn Mo Mp Mq Mr Ms Mt Mu Mv Mw : HV⦄,L0 D H k n y0 y3 S = some p → HRun Tryz.prog base W0 β0 88 none [.inLoop c4,.inBlock 0] ⟨[y0,Gb,Gc,(Sl.hv y3),Ge,Gf,Gg,Gh,Gi,Gj,Gk,Gl,Gm,Gn,Go,Gp,Gq,Gr,Gs,Gt,Gu,Gv,Gw,Gx,Gy,Gz,Ka,Kb,Kc,Kd,Ke,Kf,Kg,Kh,Ki,Kj,Kk,Kl,Km,Kn,Ko,Kp,Kq,Kr,Ks,Kt,Ku,Kv,Kw,Kx,Ky,Kz,Ma,Mb,Mc,Md,Me,Mf,Mg,Mh,Mi,Mj,Mk,Ml,Mm,Mn,Mo,Mp,Mq,Mr,Ms,Mt,Mu,Mv,Mw],[]⟩ S (fun v S1 => v = (.tup []) ∧ S1 = p.2) := by
 intro n
 induction n with
 | zero => intro _ _ _ _ _ _ _ _ _ _ _ _ _ _ _ _ _ _ _ _ _ _ _ _ _ _ _ _ _ _ _ _ _ _ _ _ _ _ _ _ _ _ _ _ _ _ _ _ _ _ _ _ _ _ _ _ _ _ _ _ _ _ _ _ _ _ _ _ _ _ _ _ _ _ _ _ _ h; cases h
 | succ n ih =>
  intro y0 y3 S p Gb Gc Ge Gf Gg Gh Gi Gj Gk Gl Gm Gn Go Gp Gq Gr Gs Gt Gu Gv Gw Gx Gy Gz Ka Kb Kc Kd Ke Kf Kg Kh Ki Kj Kk Kl Km Kn Ko Kp Kq Kr Ks Kt Ku Kv Kw Kx Ky Kz Ma Mb Mc Md Me Mf Mg Mh Mi Mj Mk Ml Mm Mn Mo Mp Mq Mr Ms Mt Mu Mv Mw h
  simp only [L0] at h
  refine hr_inLoop (q_block rfl (qQ rfl (qR rfl rfl (qS 4 rfl (ok_assign · (.int _ _)) (rE ?_)))))
  try dsimp only [w0,w1,w2,w3]
  refine qQ rfl (qQ rfl (qR rfl rfl (qS 12 rfl (oM · rfl) (qS 13 rfl (ok_len_sl (q := Sl.a y3) (n := Sl.len y3) (z := Sl.cap y3) · rfl tu144 (.tmp rfl)) (qS 14 rfl (ok_move · (.int _ _)) (rE ?_))))))
  try dsimp only [w0,w1,w2,w3]
  refine q_block rfl (q_loop rfl ?_)
  try dsimp only [w0,w1,w2,w3]
  exact L1_snd hD hH ih h
def f (D : Dp) (H : Hd) (k : Nat) (x0 : HV) (x1 : (Option HA)) (S : HS) : Option ((Unit) × HS) :=
 (Option.bind (x1) fun p1 =>
 (Option.bind (HS.ldSl S p1) fun p2 =>
 (Option.bind (slices_Clone_int_int_89.f p2 S) fun p3 =>
 L0 D H k k x0 p3.1 p3.2)))
theorem snd {x0 : HV} {x1 : (Option HA)} {S : HS} (hD : DSound Tryz.prog base W0 D) (hH : HSound Tryz.prog base W0 β0 H)  {p : (Unit) × HS} (h : f D H k x0 x1 S = some p) : HCall Tryz.prog base W0 β0 88 [x0,(.ptr x1)] S (fun v S1 => v = (.tup []) ∧ S1 = p.2) := by
 unfold f at h
 refine HCall.of_run at_.at_ body ?_
 show HRun Tryz.prog base W0 β0 88 none [.code c0] ⟨[x0,(.ptr x1),τ,τ,τ,τ,τ,τ,τ,τ,τ,τ,τ,τ,τ,τ,τ,τ,τ,τ,τ,τ,τ,τ,τ,τ,τ,τ,τ,τ,τ,τ,τ,τ,τ,τ,τ,τ,τ,τ,τ,τ,τ,τ,τ,τ,τ,τ,τ,τ,τ,τ,τ,τ,τ,τ,τ,τ,τ,τ,τ,τ,τ,τ,τ,τ,τ,τ,τ,τ,τ,τ,τ,τ,τ],[]⟩ S _
 obtain ⟨p1,hp1,h⟩ := bindo h
 obtain ⟨p2,hp2,h⟩ := bindo h
 obtain ⟨p3,hp3,h⟩ := bindo h
 refine qQ rfl (qR rfl rfl (qS 10 rfl (oL · sc144 rfl hp1 (ldSl_out hp2)) (q_call (dst := some 11) rfl (.func _) (.cons (.tmp rfl) Evs.nil) (HInv.static slices_Clone_int_int_89.at_ slices_Clone_int_int_89.body (slices_Clone_int_int_89.snd  hp3)) ?_)))
 rintro _ _ ⟨rfl,rfl⟩
 refine qS 3 rfl (oA · rfl) (rE ?_)
 try dsimp only [w0,w1,w2,w3]
 refine q_block rfl (q_loop rfl ?_)
 try dsimp only [w0,w1,w2,w3]
 exact L0_snd hD hH h
end
end set_Union_int_1
namespace set_Union_int
theorem at_ : FnAt Tryz.prog 57 Tryz.f57 := ⟨Tryz.func57,by kernel_rfl⟩
def d0 := (Tryz.f57.body).getD .skip
def r1 := kR (kA d0)
def r3 := kR (kA (kB d0))
def d5 := kA (kB (kB d0))
def r6 := kR (kA d5)
def d9 := kA (kA (kB d5))
def r10 := kR (kA d9)
def r18 := kR (kA (kA (kA (kB (kB d9)))))
def r19 := kR (kB (kA (kA (kB (kB d9)))))
def r20 := kR (kB (kB (kB d9)))
def r22 := kR (kA (kB (kB (kB d0))))
def c21 : Code := .seq (.region 7 r22 false) .ret
def c9 : Code := .seq (.region 3 r10 false) (.seq (.cond (.tmp 9) .skip (.exit 0)) (.seq (.block 1 (.seq (.region 4 r18 false) (.region 5 r19 true))) (.region 6 r20 false)))
def c0 : Code := .seq (.region 0 r1 false) (.seq (.region 1 r3 false) (.seq (.seq (.region 2 r6 false) (.block 0 (.loop c9))) c21))
theorem body : Tryz.f57.body = some c0 := by kernel_rfl
section
variable {base : Nat} {W0 : World} {β0 : Bt}
def L0 (k : Nat) : Nat → (Option HA) → Sl → Int → Int → HS → Option ((HV) × HS)
 | 0,_,_,_,_,_ => none
 | n + 1,y3,y6,y7,y8,S =>
  (if y8 < y7 then
  (Option.bind (HS.idx S y6 y8 1) fun p3 =>
  (Option.bind (HS.ldP S p3) fun p4 =>
  (Option.bind (y3) fun p5 =>
  (Option.bind (HS.ldSl S p5) fun p6 =>
  (Option.bind (set_Set_int_List.f p4 S) fun p7 =>
  (Option.bind (HS.ldSl p7.2 p5) fun p8 =>
  (if p8 = p6 then
  (letv (HS.lit p7.2 [[(Sl.hv p7.1)]] 1) fun p10 =>
  (Option.bind (HS.ldSl (p10.2) p5) fun p11 =>
  (if p11 = p6 then
  (Option.bind (HS.rows (p10.2) (p10.1) 1) fun p13 =>
  (Option.bind (HS.app (p10.2) p6 p13 1) fun p14 =>
  (Option.bind (y3) fun p15 =>
  (Option.bind (HS.sets (p14.2) p15 [(Sl.hv (p14.1))]) fun p16 =>
  (L0 k n) y3 y6 y7 (w64 (y8 + 1)) p16)))) else none))) else none))))))) else
  some ((HV.fn (.func 88) [] [(.ptr y3)]),S))
theorem L0_snd  : ∀ {n : Nat} ⦃y3 : (Option HA)⦄ ⦃y6 : Sl⦄ ⦃y7 : Int⦄ ⦃y8 : Int⦄ ⦃S : HS⦄ ⦃p : (HV) × HS⦄ ⦃Ga Gb Gc Ge Gf Gj Gk Gl Gm Gn Go Gp Gq Gr Gs : HV⦄,L0 k n y3 y6 y7 y8 S = some p → HRun Tryz.prog base W0 β0 57 none [.inLoop c9,.inBlock 0,.code c21] ⟨[Ga,Gb,Gc,(.ptr y3),Ge,Gf,(Sl.hv y6),(.int .i64 y7),(.int .i64 y8),Gj,Gk,Gl,Gm,Gn,Go,Gp,Gq,Gr,Gs],[]⟩ S (fun v S1 => v = p.1 ∧ S1 = p.2) := by
 intro n
 induction n with
 | zero => intro _ _ _ _ _ _ _ _ _ _ _ _ _ _ _ _ _ _ _ _ _ h; cases h
 | succ n ih =>
  intro y3 y6 y7 y8 S p Ga Gb Gc Ge Gf Gj Gk Gl Gm Gn Go Gp Gq Gr Gs h
  simp only [L0] at h
  refine hr_inLoop (qQ rfl (qR rfl rfl (qS 9 rfl (oB · rfl rfl rfl) (rE ?_))))
  try dsimp only [w0,w1,w2,w3]
  refine qQ rfl ?_
  rcases ifc h with ⟨hc2,h⟩ | ⟨hc2,h⟩
  ·obtain ⟨p3,hp3,h⟩ := bindo h
   obtain ⟨p4,hp4,h⟩ := bindo h
   refine q_cond_t rfl (.tmp rfl) (decide_eq_true hc2) (q_skipc rfl (qQ rfl (q_block rfl (qQ rfl (qR rfl rfl (qS 10 rfl (oX (s := y6) · tu95 sz96 rfl rfl hp3) (qS 11 rfl (oL · sc96 rfl rfl (ldP_out hp4)) (qS 5 rfl (oA · rfl) (rE ?_)))))))))
   try dsimp only [w0,w1,w2,w3]
   refine x_start (cls := [3,0,2,2,2,2]) (rk := [0,1,2,3,4,5]) rfl (by kernel_rfl) ?_
   obtain ⟨p5,hp5,h⟩ := bindo h
   obtain ⟨p6,hp6,h⟩ := bindo h
   refine x_late (r_op (dst := some 12) (ts := [3]) rfl (by intro _ _ h; cases h) (by kernel_rfl) (fun _ ho => ok_load_s ho sc144 (.tmp rfl) hp5 (ldSl_out hp6))) rfl trivial ?_
   refine xf 13 [5] rfl (oM · rfl) ?_
   obtain ⟨p7,hp7,h⟩ := bindo h
   obtain ⟨p8,hp8,h⟩ := bindo h
   obtain ⟨hg9,h⟩ := gd h
   refine x_goE (e_call (dst := some 14) (ts := [13]) rfl (by kernel_rfl) (.func _) (.cons (.tmp rfl) Evs.nil) (HInv.static set_Set_int_List.at_ set_Set_int_List.body (set_Set_int_List.snd  hp7))) rfl ⟨.inr (l_op (dst := some 12) (ts := [3]) rfl (by intro _ _ h; cases h) (by kernel_rfl) (fun _ ho => ok_load_s ho sc144 (.tmp rfl) hp5 (ldSl_out (hp8.trans (congrArg some hg9))))),trivial⟩ ?_
   obtain ⟨p10,hp10,h⟩ := leto h
   obtain ⟨p11,hp11,h⟩ := bindo h
   obtain ⟨hg12,h⟩ := gd h
   refine ze 15 [14] rfl (ok_buildSlice_s (xs := [(.tmp 14)]) el144 · rfl rfl (by decide) (.cons (.tmp rfl) Evs.nil) rfl rfl hp10) ⟨.inr (l_op (dst := some 12) (ts := [3]) rfl (by intro _ _ h; cases h) (by kernel_rfl) (fun _ ho => ok_load_s ho sc144 (.tmp rfl) hp5 (ldSl_out (hp11.trans (congrArg some hg12))))),trivial⟩ ?_
   try dsimp only [w0,w1,w2,w3]
   obtain ⟨p13,hp13,h⟩ := bindo h
   obtain ⟨p14,hp14,h⟩ := bindo h
   refine ze 16 [12,15] rfl (ok_append (s := p6) (s1 := (p10.1)) el144 · rfl rfl ⟨_,tu144⟩ (.tmp rfl) (.tmp rfl) hp13 hp14) ⟨.inl (by kernel_rfl),trivial⟩ ?_
   obtain ⟨p15,hp15,h⟩ := bindo h
   obtain ⟨p16,hp16,h⟩ := bindo h
   refine x_goE (e_op (dst := none) (ts := [3,16]) rfl (by intro _ _ h; cases h) (by kernel_rfl) (fun _ ho => ok_store_s (v := (Sl.hv (p14.1))) ho sz144 (.tmp rfl) hp15 (.tmp rfl) rfl hp16)) rfl ⟨.inl (by kernel_rfl),trivial⟩ ?_
   refine x_rest rfl ?_
   refine rE ?_
   try dsimp only [w0,w1,w2,w3]
   refine hr_inBlock (qR rfl rfl (qS 17 rfl (oC · rfl rfl) (qS 8 rfl (oM · rfl) (rE ?_))))
   try dsimp only [w0,w1,w2,w3]
   exact ih h
  ·refine q_cond_f rfl (.tmp rfl) (decide_eq_false hc2) (q_exit rfl rfl (qQ rfl (qR rfl rfl (qS 18 rfl (ok_makeFunc · Evs.nil (.cons (.tmp rfl) Evs.nil)) (qS 2 rfl (oA · rfl) (rE ?_))))))
   cases h
   exact q_ret rfl at_.at_ rfl (res1 rfl rfl) ⟨rfl,rfl⟩
def f (k : Nat) (x0 : Sl) (S : HS) : Option ((HV) × HS) :=
 (letv (HS.new S (.cells 1 [[(Sl.hv Sl.nil)]] true)) fun p1 =>
 L0 k k (some (HA.cell0 S.next)) x0 (Sl.len x0 : Int) 0 p1)
theorem snd {x0 : Sl} {S : HS}  {p : (HV) × HS} (h : f k x0 S = some p) : HCall Tryz.prog base W0 β0 57 [(Sl.hv x0)] S (fun v S1 => v = p.1 ∧ S1 = p.2) := by
 unfold f at h
 refine HCall.of_run at_.at_ body ?_
 show HRun Tryz.prog base W0 β0 57 none [.code c0] ⟨[(Sl.hv x0),τ,τ,τ,τ,τ,τ,τ,τ,τ,τ,τ,τ,τ,τ,τ,τ,τ,τ],[]⟩ S _
 refine qQ rfl (qR rfl rfl (qS 2 rfl (ok_assign · (.const fun _ => .nilFn)) (rE ?_)))
 try dsimp only [w0,w1,w2,w3]
 obtain ⟨p1,hp1,h⟩ := leto h
 refine qQ rfl (qR rfl rfl (qS 3 rfl (ok_alloc_e · zi144 zr144 (by decide) rfl hp1) (rE ?_)))
 try dsimp only [w0,w1,w2,w3]
 refine qQ rfl (qQ rfl (qR rfl rfl (qS 6 rfl (oM · rfl) (qS 7 rfl (ok_len_sl (q := Sl.a x0) (n := Sl.len x0) (z := Sl.cap x0) · rfl tu95 (.tmp rfl)) (qS 8 rfl (ok_move · (.int _ _)) (rE ?_))))))
 try dsimp only [w0,w1,w2,w3]
 refine q_block rfl (q_loop rfl ?_)
 try dsimp only [w0,w1,w2,w3]
 exact L0_snd  h
end
end set_Union_int
namespace set_Without_int_1
theorem at_ : FnAt Tryz.prog 86 Tryz.f86 := ⟨Tryz.func86,by kernel_rfl⟩
def d0 := (Tryz.f86.body).getD .skip
def r1 := kR (kA d0)
def r4 := kR (kA (kA (kB d0)))
def r9 := kR (kA (kB (kB d0)))
def r12 := kR (kA (kA (kB (kB (kB d0)))))
def r15 := kR (kA (kA (kB (kA (kB (kB (kB d0)))))))
def c16 : Code := .cond (.tmp 17) .ret .skip
def c13 : Code := .block 1 (.seq (.region 4 r15 false) c16)
def c12 : Code := .region 3 r12 false
def c0 : Code := .seq (.region 0 r1 false) (.seq (.seq (.region 1 r4 false) (.cond (.tmp 6) .ret .skip)) (.seq (.region 2 r9 false) (.block 0 (.rangeFunc (.tmp 7) #[8] c12 c13))))
theorem body : Tryz.f86.body = some c0 := by kernel_rfl
section
variable {base : Nat} {W0 : World} {β0 : Bt}
def J1 (D : Dp) (H : Hd) (l : Nat) (y17 : Bool) (S : HS) : Option (HV × HS) :=
 (if y17 = true then
 (HS.endr S l (some .ret)) else
 (HS.endr S l none))
theorem J1_snd {l : Nat} (hD : DSound Tryz.prog base W0 D) (hH : HSound Tryz.prog base W0 β0 H)  {y17 : Bool} {S : HS} {p : HV × HS} (h : J1 D H l y17 S = some p) : HRun Tryz.prog base W0 β0 86 (some l) [.code c16,.inBlock 1] ⟨[Ga,Gb,Gc,Gd,Ge,Gf,Gg,Gh,Gi,Gj,Gk,Gl,Gm,Gn,Go,Gp,Gq,(.bool y17)],[]⟩ S (fun v S1 => v = p.1 ∧ S1 = p.2) := by
 unfold J1 at h
 rcases ifc h with ⟨hc18,h⟩ | ⟨hc18,h⟩
 ·refine q_cond_t rfl (.tmp rfl) hc18 ?_
  exact q_round_ret rfl h ⟨rfl,rfl⟩
 ·refine q_cond_f rfl (.tmp rfl) (bfalse hc18) (q_skipc rfl (hr_inBlock ?_))
  exact q_round_end h ⟨rfl,rfl⟩
def J0 (D : Dp) (H : Hd) (l : Nat) (y2 : (Option HA)) (y3 : (Option HA)) (y8 : Int) (S : HS) : Option (HV × HS) :=
 (Option.bind (HS.begin_ S l) fun p10 =>
 (Option.bind (y2) fun p11 =>
 (Option.bind (HS.ldI p10 .i64 p11) fun p12 =>
 (if (!decide (y8 = p12)) = true then
 (Option.bind (y3) fun p14 =>
 (Option.bind (HS.ldF p10 p14) fun p15 =>
 (Option.bind (D H p15 [(.int .i64 y8)] p10) fun p16 =>
 (Option.bind (dB p16.1) fun p17 =>
 J1 D H l (!p17) p16.2)))) else
 J1 D H l false p10))))
theorem J0_snd {l : Nat} (hD : DSound Tryz.prog base W0 D) (hH : HSound Tryz.prog base W0 β0 H)  {y2 : (Option HA)} {y3 : (Option HA)} {y8 : Int} {S : HS} {p : HV × HS} (h : J0 D H l y2 y3 y8 S = some p) : HRun Tryz.prog base W0 β0 86 (some l) [.code c12,.beginRound,.code c13] ⟨[Ga,Gb,(.ptr y2),(.ptr y3),Ge,Gf,Gg,Gh,(.int .i64 y8),Gj,Gk,Gl,Gm,Gn,Go,Gp,Gq,Gr],[]⟩ S (fun v S1 => v = p.1 ∧ S1 = p.2) := by
 unfold J0 at h
 refine qR rfl rfl (qS 4 rfl (oA · rfl) (rE ?_))
 try dsimp only [w0,w1,w2,w3]
 obtain ⟨p10,hp10,h⟩ := bindo h
 refine q_begin hp10 ?_
 obtain ⟨p11,hp11,h⟩ := bindo h
 obtain ⟨p12,hp12,h⟩ := bindo h
 refine q_block rfl (qQ rfl (qR rfl rfl (qS 9 rfl (oM · rfl) (qS 10 rfl (oL · sc3 rfl hp11 (ldI_out hp12)) (qS 11 rfl (oB · rfl rfl rfl) (qS 12 rfl (oM · rfl) ?_))))))
 try dsimp only [w0,w1,w2,w3]
 rcases ifc h with ⟨hc13,h⟩ | ⟨hc13,h⟩
 ·obtain ⟨p14,hp14,h⟩ := bindo h
  obtain ⟨p15,hp15,h⟩ := bindo h
  obtain ⟨p16,hp16,h⟩ := bindo h
  obtain ⟨p17,hp17,h⟩ := bindo h
  refine qG 12 13 rfl hc13 (oL · sc85 rfl hp14 (ldF_out hp15)) (qG 12 14 rfl hc13 (oM · rfl) (q_call_g (t := 12) (dst := some 15) rfl rfl rfl hc13 (.tmp rfl) (.cons (.tmp rfl) Evs.nil) (hD _ _ hH _ _ _ _ _ hp16) ?_))
  rintro _ _ ⟨rfl,rfl⟩
  rw [dB_out hp17]
  refine qG 12 16 rfl hc13 (ok_not · (.tmp rfl)) ?_
  try dsimp only [w0,w1,w2,w3]
  refine qS 17 rfl (ok_pick_tt · (.tmp rfl) hc13 (.tmp rfl)) (rE ?_)
  try dsimp only [w0,w1,w2,w3]
  exact J1_snd hD hH h
 ·refine q_skip (dst := some 13) (t := 12) rfl rfl rfl (bfalse hc13) (q_skip (dst := some 14) (t := 12) rfl rfl rfl (bfalse hc13) (q_skip (dst := some 15) (t := 12) rfl rfl rfl (bfalse hc13) (q_skip (dst := some 16) (t := 12) rfl rfl rfl (bfalse hc13) ?_)))
  try dsimp only [w0,w1,w2,w3]
  refine qS 17 rfl (ok_pick_ff · (.tmp rfl) (bfalse hc13) (.bool _)) (rE ?_)
  try dsimp only [w0,w1,w2,w3]
  exact J1_snd hD hH h
def f (D : Dp) (H : Hd) (x0 : HV) (x1 : (Option HA)) (x2 : (Option HA)) (S : HS) : Option ((Unit) × HS) :=
 (Option.bind (dF x0) fun p1 =>
 (letv (HS.new S (.cells 1 [[p1]] true)) fun p2 =>
 (Option.bind (x1) fun p3 =>
 (Option.bind (HS.ldF p2 p3) fun p4 =>
 (Option.bind (HV.isNilFn p4) fun p5 =>
 (if (p5) = true then
 (Option.bind (HS.leave p2 []) fun p7 =>
 some ((),p7)) else
 (Option.bind (x1) fun p8 =>
 (Option.bind (HS.ldF p2 p8) fun p9 =>
 (Option.bind (D (Hd.set H (HS.next p2 + 1) fun vs T =>
 (Option.bind (HS.lp T (HS.next p2 + 1)) fun u21 =>
 (Option.bind (args1 vs) fun ar19 =>
 (Option.bind (dI .i64 ar19) fun p20 =>
 (J0 D H (HS.next p2 + 1) x2 (some (HA.cell0 S.next)) p20 T))))) p9 [.fn (.yield (HS.next p2 + 1)) [] []] (HS.new (HS.new p2 .defer) (.loop .ready none))) fun p22 =>
 (Option.bind (HS.finish p22.2 (HS.next p2 + 1)) fun p23 =>
 (Option.bind (pcode p23.1) fun n24 =>
 (if n24 = 0 then
 (Option.bind (HS.leave p23.2 (HS.next p2 :: [])) fun p26 =>
 some ((),p26)) else
 (if n24 = 1 then
 (Option.bind (HS.leave p23.2 (HS.next p2 :: [])) fun p28 =>
 some ((),p28)) else
 none)))))))))))))
theorem snd {x0 : HV} {x1 : (Option HA)} {x2 : (Option HA)} {S : HS} (hD : DSound Tryz.prog base W0 D) (hH : HSound Tryz.prog base W0 β0 H)  {p : (Unit) × HS} (h : f D H x0 x1 x2 S = some p) : HCall Tryz.prog base W0 β0 86 [x0,(.ptr x1),(.ptr x2)] S (fun v S1 => v = (.tup []) ∧ S1 = p.2) := by
 unfold f at h
 refine HCall.of_run at_.at_ body ?_
 show HRun Tryz.prog base W0 β0 86 none [.code c0] ⟨[x0,(.ptr x1),(.ptr x2),τ,τ,τ,τ,τ,τ,τ,τ,τ,τ,τ,τ,τ,τ,τ],[]⟩ S _
 obtain ⟨p1,hp1,h⟩ := bindo h
 obtain ⟨p2,hp2,h⟩ := leto h
 refine qQ rfl (qR rfl rfl (qS 3 rfl (ok_box_fn · (.tmp rfl) hp1 hp2) (rE ?_)))
 try dsimp only [w0,w1,w2,w3]
 obtain ⟨p3,hp3,h⟩ := bindo h
 obtain ⟨p4,hp4,h⟩ := bindo h
 obtain ⟨p5,hp5,h⟩ := bindo h
 refine qQ rfl (qQ rfl (qR rfl rfl (qS 5 rfl (oL · sc46 rfl hp3 (ldF_out hp4)) (qS 6 rfl (ok_nil_fn · tu46 (.tmp rfl) hp5 (.inl ⟨rfl,rfl⟩)) (rE ?_)))))
 try dsimp only [w0,w1,w2,w3]
 rcases ifc h with ⟨hc6,h⟩ | ⟨hc6,h⟩
 ·obtain ⟨p7,hp7,h⟩ := bindo h
  cases h
  exact q_cond_t rfl (.tmp rfl) hc6 (q_ret rfl at_.at_ hp7 (res0 rfl) ⟨rfl,rfl⟩)
 ·obtain ⟨p8,hp8,h⟩ := bindo h
  obtain ⟨p9,hp9,h⟩ := bindo h
  refine q_cond_f rfl (.tmp rfl) (bfalse hc6) (q_skipc rfl (qQ rfl (qR rfl rfl (qS 7 rfl (oL · sc46 rfl hp8 (ldF_out hp9)) (rE ?_)))))
  try dsimp only [w0,w1,w2,w3]
  obtain ⟨p22,hp22,h⟩ := bindo h
  obtain ⟨p23,hp23,h⟩ := bindo h
  obtain ⟨n24,hn24,h⟩ := bindo h
  refine q_block rfl ?_
  refine q_range (D := D) (H := H) rfl (.tmp rfl) hD hH hp22 hp23 ?_ ?_
  ·intro β1 hle hLA vs T u T' hr
   obtain ⟨u21,hu21,hr⟩ := bindo hr
   obtain ⟨ar19,har19,hr⟩ := bindo hr
   obtain ⟨p20,hp20,hr⟩ := bindo hr
   rw [args1_out har19]
   refine q_yield2 hLA hu21 rfl rfl ?_
   rw [dI_out hp20]
   simp only [HAct.params,List.set_cons_zero,List.set_cons_succ]
   exact J0_snd hD (hH.up hle) hr
  ·rcases ifc h with ⟨hc25,h⟩ | ⟨hc25,h⟩
   ·rw [pcode0 hn24 hc25]
    simp only [jumped_none,jumped_some]
    obtain ⟨p26,hp26,h⟩ := bindo h
    cases h
    exact hr_inBlock (q_end at_.at_ hp26 (res0 rfl) ⟨rfl,rfl⟩)
   ·rcases ifc h with ⟨hc27,h⟩ | ⟨hc27,h⟩
    ·rw [pcode1 hn24 hc27]
     simp only [jumped_none,jumped_some]
     obtain ⟨p28,hp28,h⟩ := bindo h
     cases h
     exact q_ret rfl at_.at_ hp28 (res0 rfl) ⟨rfl,rfl⟩
    ·cases h
end
end set_Without_int_1
namespace set_Without_int
theorem at_ : FnAt Tryz.prog 56 Tryz.f56 := ⟨Tryz.func56,by kernel_rfl⟩
def d0 := (Tryz.f56.body).getD .skip
def r1 := kR (kA d0)
def r3 := kR (kA (kB d0))
def c0 : Code := .seq (.region 0 r1 false) (.seq (.region 1 r3 false) .ret)
theorem body : Tryz.f56.body = some c0 := by kernel_rfl
section
variable {base : Nat} {W0 : World} {β0 : Bt}
def f (x0 : HV) (x1 : Int) (S : HS) : Option ((HV) × HS) :=
 (Option.bind (dF x0) fun p1 =>
 (letv (HS.new S (.cells 1 [[p1]] true)) fun p2 =>
 (letv (HS.new p2 (.cells 1 [[(.int .i64 x1)]] true)) fun p3 =>
 some ((HV.fn (.func 86) [] [(.ptr (some (HA.cell0 S.next))),(.ptr (some (HA.cell0 p2.next)))]),p3))))
theorem snd {x0 : HV} {x1 : Int} {S : HS}  {p : (HV) × HS} (h : f x0 x1 S = some p) : HCall Tryz.prog base W0 β0 56 [x0,(.int .i64 x1)] S (fun v S1 => v = p.1 ∧ S1 = p.2) := by
 unfold f at h
 refine HCall.of_run at_.at_ body ?_
 show HRun Tryz.prog base W0 β0 56 none [.code c0] ⟨[x0,(.int .i64 x1),τ,τ,τ,τ],[]⟩ S _
 obtain ⟨p1,hp1,h⟩ := bindo h
 obtain ⟨p2,hp2,h⟩ := leto h
 obtain ⟨p3,hp3,h⟩ := leto h
 refine qQ rfl (qR rfl rfl (qS 2 rfl (ok_box_fn · (.tmp rfl) hp1 hp2) (qS 3 rfl (ok_box_e · (.tmp rfl) (Nat.zero_lt_succ _) rfl hp3) (qS 4 rfl (ok_assign · (.const fun _ => .nilFn)) (rE ?_)))))
 try dsimp only [w0,w1,w2,w3]
 refine qQ rfl (qR rfl rfl (qS 5 rfl (ok_makeFunc · Evs.nil (.cons (.tmp rfl) (.cons (.tmp rfl) Evs.nil))) (qS 4 rfl (oA · rfl) (rE ?_))))
 cases h
 exact q_ret rfl at_.at_ rfl (res1 rfl rfl) ⟨rfl,rfl⟩
end
end set_Without_int
namespace rooms_Rooms_Peers
theorem at_ : FnAt Tryz.prog 15 Tryz.f15 := ⟨Tryz.func15,by kernel_rfl⟩
def d0 := (Tryz.f15.body).getD .skip
def r1 := kR (kA d0)
def r3 := kR (kA (kB d0))
def d5 := kA (kB (kB d0))
def r6 := kR (kA d5)
def r9 := kR (kA (kA (kB d5)))
def d10 := kB (kA (kB d5))
def r12 := kR (kA (kA d10))
def r15 := kR (kA (kA (kB (kA d10))))
def d17 := kA (kB (kA (kB (kA d10))))
def r18 := kR (kA d17)
def r20 := kR (kA (kB d17))
def r21 := kR (kB (kB (kA d10)))
def r23 := kR (kA (kB (kB (kB d0))))
def c19 : Code := .block 3 (.region 7 r20 false)
def c18 : Code := .region 6 r18 false
def c10 : Code := .block 1 (.seq (.region 4 r12 false) (.seq (.seq (.region 5 r15 false) (.block 2 (.rangeFunc (.tmp 15) #[16] c18 c19))) (.region 8 r21 false)))
def c9 : Code := .region 3 r9 false
def c0 : Code := .seq (.region 0 r1 false) (.seq (.region 1 r3 false) (.seq (.seq (.region 2 r6 false) (.block 0 (.rangeFunc (.tmp 11) #[12] c9 c10))) (.seq (.region 9 r23 false) .ret)))
theorem body : Tryz.f15.body = some c0 := by kernel_rfl
section
variable {base : Nat} {W0 : World} {β0 : Bt}
def J1 (D : Dp) (H : Hd) (k : Nat) (l : Nat) (y7 : (Option HA)) (y16_0 : Int) (y16_1 : Bool) (y16_2 : Bool) (S : HS) : Option (HV × HS) :=
 (letv (HS.new S (.cells 3 [[(.int .i64 0),(.bool false),(.bool false)]] true)) fun p8 =>
 (Option.bind (HS.sets p8 (HA.cell0 S.next) [(.int .i64 y16_0),(.bool y16_1),(.bool y16_2)]) fun p9 =>
 (Option.bind (HS.begin_ p9 l) fun p10 =>
 (Option.bind (y7) fun p11 =>
 (Option.bind (HS.ldP p10 p11) fun p12 =>
 (Option.bind (HS.ldI p10 .i64 (HA.fld (HA.cell0 S.next) 0)) fun p13 =>
 (letv (HS.lit p10 [[(.int .i64 p13)]] 1) fun p14 =>
 (Option.bind (set_Set_int_Add.f k p12 (p14.1) (p14.2)) fun p15 =>
 (HS.endr p15.2 l none)))))))))
theorem J1_snd {l : Nat} (hD : DSound Tryz.prog base W0 D) (hH : HSound Tryz.prog base W0 β0 H)  {y7 : (Option HA)} {y16_0 : Int} {y16_1 : Bool} {y16_2 : Bool} {S : HS} {p : HV × HS} (h : J1 D H k l y7 y16_0 y16_1 y16_2 S = some p) : HRun Tryz.prog base W0 β0 15 (some l) [.code c18,.beginRound,.code c19] ⟨[Ga,Gb,Gc,Gd,Ge,Gf,Gg,(.ptr y7),Gi,Gj,Gk,Gl,Gm,Gn,Go,Gp,(.agg [(.int .i64 y16_0),(.bool y16_1),(.bool y16_2)]),Gr,Gs,Gt,Gu,Gv,Gw,Gx,Gy,Gz,Ka,Kb,Kc,Kd],[]⟩ S (fun v S1 => v = p.1 ∧ S1 = p.2) := by
 unfold J1 at h
 obtain ⟨p8,hp8,h⟩ := leto h
 obtain ⟨p9,hp9,h⟩ := bindo h
 refine qR rfl rfl (qS 8 rfl (ok_alloc_e · zi62 zr62 (by decide) rfl hp8) (qN rfl (ok_store_s (v := (.agg [(.int .i64 y16_0),(.bool y16_1),(.bool y16_2)])) · sz62 (.tmp rfl) rfl (.tmp rfl) rfl hp9) (rE ?_)))
 try dsimp only [w0,w1,w2,w3]
 obtain ⟨p10,hp10,h⟩ := bindo h
 refine q_begin hp10 ?_
 obtain ⟨p11,hp11,h⟩ := bindo h
 obtain ⟨p12,hp12,h⟩ := bindo h
 obtain ⟨p13,hp13,h⟩ := bindo h
 obtain ⟨p14,hp14,h⟩ := leto h
 refine q_block rfl (qR rfl rfl (qS 17 rfl (oL · sc96 rfl hp11 (ldP_out hp12)) (qS 18 rfl (oF · fi62_0 (by decide) rfl rfl) (qS 19 rfl (oL · sc3 rfl rfl (ldI_out hp13)) (qS 20 rfl (ok_buildSlice_s (xs := [(.tmp 19)]) el42 · rfl rfl (by decide) (.cons (.tmp rfl) Evs.nil) rfl rfl hp14) ?_)))))
 try dsimp only [w0,w1,w2,w3]
 obtain ⟨p15,hp15,h⟩ := bindo h
 refine q_call (dst := some 21) rfl (.func _) (.cons (.tmp rfl) (.cons (.tmp rfl) Evs.nil)) (HInv.static set_Set_int_Add.at_ set_Set_int_Add.body (set_Set_int_Add.snd  hp15)) ?_
 rintro _ _ ⟨rfl,rfl⟩
 refine rE ?_
 try dsimp only [w0,w1,w2,w3]
 refine hr_inBlock ?_
 exact q_round_end h ⟨rfl,rfl⟩
def J0 (D : Dp) (H : Hd) (k : Nat) (l : Nat) (y5 : (Option HA)) (y12 : (Option HA)) (S : HS) : Option (HV × HS) :=
 (Option.bind (HS.begin_ S l) fun p3 =>
 (Option.bind (set_Of_int.f k Sl.nil p3) fun p4 =>
 (letv (HS.new p4.2 (.cells 1 [[(.ptr none)]] true)) fun p5 =>
 (Option.bind (HS.sets p5 (HA.cell0 p4.2.next) [(.ptr p4.1)]) fun p6 =>
 (Option.bind (room_Room_Members.f y12 p6) fun p7 =>
 (Option.bind (HS.lp p7.2 l) fun u25 =>
 (Option.bind (D (Hd.set H (HS.next p7.2) fun vs T =>
 (Option.bind (HS.lp T (HS.next p7.2)) fun u21 =>
 (Option.bind (args1 vs) fun ar16 =>
 (Option.bind (dA3 ar16) fun p17 =>
 (Option.bind (dI .i64 p17.1) fun p18 =>
 (Option.bind (dB p17.2.1) fun p19 =>
 (Option.bind (dB p17.2.2) fun p20 =>
 (J1 D H k (HS.next p7.2) (some (HA.cell0 p4.2.next)) p18 p19 p20 T)))))))) p7.1 [.fn (.yield (HS.next p7.2)) [] []] (HS.new p7.2 (.loop .ready none))) fun p22 =>
 (Option.bind (HS.finish p22.2 (HS.next p7.2)) fun p23 =>
 (Option.bind (pcode p23.1) fun n24 =>
 (if n24 = 0 then
 (Option.bind (y5) fun p27 =>
 (Option.bind (HS.ldSl p23.2 p27) fun p28 =>
 (Option.bind (HS.ldP p23.2 (HA.cell0 p4.2.next)) fun p29 =>
 (letv (HS.lit p23.2 [[(.ptr p29)]] 1) fun p30 =>
 (Option.bind (HS.rows (p30.2) (p30.1) 1) fun p31 =>
 (Option.bind (HS.app (p30.2) p28 p31 1) fun p32 =>
 (Option.bind (y5) fun p33 =>
 (Option.bind (HS.sets (p32.2) p33 [(Sl.hv (p32.1))]) fun p34 =>
 (HS.endr p34 l none))))))))) else
 none))))))))))
theorem J0_snd {l : Nat} (hD : DSound Tryz.prog base W0 D) (hH : HSound Tryz.prog base W0 β0 H)  {y5 : (Option HA)} {y12 : (Option HA)} {S : HS} {p : HV × HS} (h : J0 D H k l y5 y12 S = some p) : HRun Tryz.prog base W0 β0 15 (some l) [.code c9,.beginRound,.code c10] ⟨[Ga,Gb,Gc,Gd,Ge,(.ptr y5),Gg,Gh,Gi,Gj,Gk,Gl,(.ptr y12),Gn,Go,Gp,Gq,Gr,Gs,Gt,Gu,Gv,Gw,Gx,Gy,Gz,Ka,Kb,Kc,Kd],[]⟩ S (fun v S1 => v = p.1 ∧ S1 = p.2) := by
 unfold J0 at h
 refine qR rfl rfl (qS 6 rfl (oA · rfl) (rE ?_))
 try dsimp only [w0,w1,w2,w3]
 obtain ⟨p3,hp3,h⟩ := bindo h
 refine q_begin hp3 ?_
 obtain ⟨p4,hp4,h⟩ := bindo h
 refine q_block rfl (qQ rfl (qR rfl rfl (q_call (dst := some 13) rfl (.func _) (.cons (.const fun _ => .slNil none) Evs.nil) (HInv.static set_Of_int.at_ set_Of_int.body (set_Of_int.snd  hp4)) ?_)))
 rintro _ _ ⟨rfl,rfl⟩
 obtain ⟨p5,hp5,h⟩ := leto h
 obtain ⟨p6,hp6,h⟩ := bindo h
 refine qS 7 rfl (ok_alloc_e · zi96 zr96 (by decide) rfl hp5) (qN rfl (ok_store_s (v := (.ptr p4.1)) · sz96 (.tmp rfl) rfl (.tmp rfl) rfl hp6) (rE ?_))
 try dsimp only [w0,w1,w2,w3]
 obtain ⟨p7,hp7,h⟩ := bindo h
 refine qQ rfl (qQ rfl (qR rfl rfl (qS 14 rfl (oM · rfl) (q_call (dst := some 15) rfl (.func _) (.cons (.tmp rfl) Evs.nil) (HInv.static room_Room_Members.at_ room_Room_Members.body (room_Room_Members.snd  hp7)) ?_))))
 rintro _ _ ⟨rfl,rfl⟩
 refine rE ?_
 try dsimp only [w0,w1,w2,w3]
 obtain ⟨u25,hu25,h⟩ := bindo h
 obtain ⟨p22,hp22,h⟩ := bindo h
 obtain ⟨p23,hp23,h⟩ := bindo h
 obtain ⟨n24,hn24,h⟩ := bindo h
 refine q_block rfl ?_
 refine q_range_in hu25 (D := D) (H := H) rfl (.tmp rfl) hD hH hp22 hp23 ?_ ?_
 ·intro β1 hle hLA vs T u T' hr
  obtain ⟨u21,hu21,hr⟩ := bindo hr
  obtain ⟨ar16,har16,hr⟩ := bindo hr
  obtain ⟨p17,hp17,hr⟩ := bindo hr
  obtain ⟨p18,hp18,hr⟩ := bindo hr
  obtain ⟨p19,hp19,hr⟩ := bindo hr
  obtain ⟨p20,hp20,hr⟩ := bindo hr
  rw [args1_out har16]
  refine q_yield2 hLA hu21 rfl rfl ?_
  rw [dA3_out hp17,dI_out hp18,dB_out hp19,dB_out hp20]
  simp only [HAct.params,List.set_cons_zero,List.set_cons_succ]
  exact J1_snd hD (hH.up hle) hr
 ·rcases ifc h with ⟨hc26,h⟩ | ⟨hc26,h⟩
  ·rw [pcode0 hn24 hc26]
   simp only [jumped_none,jumped_some]
   obtain ⟨p27,hp27,h⟩ := bindo h
   obtain ⟨p28,hp28,h⟩ := bindo h
   obtain ⟨p29,hp29,h⟩ := bindo h
   obtain ⟨p30,hp30,h⟩ := leto h
   obtain ⟨p31,hp31,h⟩ := bindo h
   obtain ⟨p32,hp32,h⟩ := bindo h
   refine hr_inBlock (qR rfl rfl (qS 22 rfl (oL · sc95 rfl hp27 (ldSl_out hp28)) (qS 23 rfl (oL · sc96 rfl rfl (ldP_out hp29)) (qS 24 rfl (ok_buildSlice_s (xs := [(.tmp 23)]) el95 · rfl rfl (by decide) (.cons (.tmp rfl) Evs.nil) rfl rfl hp30) (qS 25 rfl (ok_append (s := p28) (s1 := (p30.1)) el95 · rfl rfl ⟨_,tu95⟩ (.tmp rfl) (.tmp rfl) hp31 hp32) ?_)))))
   try dsimp only [w0,w1,w2,w3]
   obtain ⟨p33,hp33,h⟩ := bindo h
   obtain ⟨p34,hp34,h⟩ := bindo h
   refine qN rfl (ok_store_s (v := (Sl.hv (p32.1))) · sz95 (.tmp rfl) hp33 (.tmp rfl) rfl hp34) (rE ?_)
   try dsimp only [w0,w1,w2,w3]
   refine hr_inBlock ?_
   exact q_round_end h ⟨rfl,rfl⟩
  ·cases h
def f (D : Dp) (H : Hd) (k : Nat) (x0 : (Option HA)) (x1 : Int) (S : HS) : Option ((HV) × HS) :=
 (letv (HS.new S (.cells 1 [[(Sl.hv Sl.nil)]] true)) fun p1 =>
 (Option.bind (rooms_Rooms_Of.f D H k x0 x1 p1) fun p2 =>
 (Option.bind (D (Hd.set H (HS.next p2.2 + 1) fun vs T =>
 (Option.bind (HS.lp T (HS.next p2.2 + 1)) fun u37 =>
 (Option.bind (args1 vs) fun ar35 =>
 (Option.bind (dP ar35) fun p36 =>
 (J0 D H k (HS.next p2.2 + 1) (some (HA.cell0 S.next)) p36 T))))) p2.1 [.fn (.yield (HS.next p2.2 + 1)) [] []] (HS.new (HS.new p2.2 .defer) (.loop .ready none))) fun p38 =>
 (Option.bind (HS.finish p38.2 (HS.next p2.2 + 1)) fun p39 =>
 (Option.bind (pcode p39.1) fun n40 =>
 (if n40 = 0 then
 (Option.bind (HS.ldSl p39.2 (HA.cell0 S.next)) fun p42 =>
 (Option.bind (set_Union_int.f k p42 p39.2) fun p43 =>
 (Option.bind (set_Without_int.f p43.1 x1 p43.2) fun p44 =>
 (Option.bind (HS.leave p44.2 (HS.next p2.2 :: [])) fun p45 =>
 some (p44.1,p45))))) else
 none))))))
theorem snd {x0 : (Option HA)} {x1 : Int} {S : HS} (hD : DSound Tryz.prog base W0 D) (hH : HSound Tryz.prog base W0 β0 H)  {p : (HV) × HS} (h : f D H k x0 x1 S = some p) : HCall Tryz.prog base W0 β0 15 [(.ptr x0),(.int .i64 x1)] S (fun v S1 => v = p.1 ∧ S1 = p.2) := by
 unfold f at h
 refine HCall.of_run at_.at_ body ?_
 show HRun Tryz.prog base W0 β0 15 none [.code c0] ⟨[(.ptr x0),(.int .i64 x1),τ,τ,τ,τ,τ,τ,τ,τ,τ,τ,τ,τ,τ,τ,τ,τ,τ,τ,τ,τ,τ,τ,τ,τ,τ,τ,τ,τ],[]⟩ S _
 refine qQ rfl (qR rfl rfl (qS 4 rfl (ok_assign · (.const fun _ => .nilFn)) (rE ?_)))
 try dsimp only [w0,w1,w2,w3]
 obtain ⟨p1,hp1,h⟩ := leto h
 refine qQ rfl (qR rfl rfl (qS 5 rfl (ok_alloc_e · zi95 zr95 (by decide) rfl hp1) (rE ?_)))
 try dsimp only [w0,w1,w2,w3]
 obtain ⟨p2,hp2,h⟩ := bindo h
 refine qQ rfl (qQ rfl (qR rfl rfl (qS 9 rfl (oM · rfl) (qS 10 rfl (oM · rfl) (q_call (dst := some 11) rfl (.func _) (.cons (.tmp rfl) (.cons (.tmp rfl) Evs.nil)) (HInv.static rooms_Rooms_Of.at_ rooms_Rooms_Of.body (rooms_Rooms_Of.snd hD hH hp2)) ?_)))))
 rintro _ _ ⟨rfl,rfl⟩
 refine rE ?_
 try dsimp only [w0,w1,w2,w3]
 obtain ⟨p38,hp38,h⟩ := bindo h
 obtain ⟨p39,hp39,h⟩ := bindo h
 obtain ⟨n40,hn40,h⟩ := bindo h
 refine q_block rfl ?_
 refine q_range (D := D) (H := H) rfl (.tmp rfl) hD hH hp38 hp39 ?_ ?_
 ·intro β1 hle hLA vs T u T' hr
  obtain ⟨u37,hu37,hr⟩ := bindo hr
  obtain ⟨ar35,har35,hr⟩ := bindo hr
  obtain ⟨p36,hp36,hr⟩ := bindo hr
  rw [args1_out har35]
  refine q_yield2 hLA hu37 rfl rfl ?_
  rw [dP_out hp36]
  simp only [HAct.params,List.set_cons_zero,List.set_cons_succ]
  exact J0_snd hD (hH.up hle) hr
 ·rcases ifc h with ⟨hc41,h⟩ | ⟨hc41,h⟩
  ·rw [pcode0 hn40 hc41]
   simp only [jumped_none,jumped_some]
   obtain ⟨p42,hp42,h⟩ := bindo h
   obtain ⟨p43,hp43,h⟩ := bindo h
   refine hr_inBlock (qQ rfl (qR rfl rfl (qS 26 rfl (oL · sc95 rfl rfl (ldSl_out hp42)) (q_call (dst := some 27) rfl (.func _) (.cons (.tmp rfl) Evs.nil) (HInv.static set_Union_int.at_ set_Union_int.body (set_Union_int.snd  hp43)) ?_))))
   rintro _ _ ⟨rfl,rfl⟩
   obtain ⟨p44,hp44,h⟩ := bindo h
   refine qS 28 rfl (oM · rfl) (q_call (dst := some 29) rfl (.func _) (.cons (.tmp rfl) (.cons (.tmp rfl) Evs.nil)) (HInv.static set_Without_int.at_ set_Without_int.body (set_Without_int.snd  hp44)) ?_)
   rintro _ _ ⟨rfl,rfl⟩
   try dsimp only [w0,w1,w2,w3]
   refine qS 4 rfl (oA · rfl) (rE ?_)
   try dsimp only [w0,w1,w2,w3]
   obtain ⟨p45,hp45,h⟩ := bindo h
   cases h
   exact q_ret rfl at_.at_ hp45 (res1 rfl rfl) ⟨rfl,rfl⟩
  ·cases h
end
end rooms_Rooms_Peers
namespace rollcalllaw20_numbers
theorem at_ : FnAt Tryz.prog 14 Tryz.f14 := ⟨Tryz.func14,by kernel_rfl⟩
def d0 := (Tryz.f14.body).getD .skip
def r1 := kR (kA d0)
def r3 := kR (kA (kB d0))
def r6 := kR (kA (kA (kB (kB d0))))
def r9 := kR (kA (kA (kB (kA (kB (kB d0))))))
def d12 := kB (kB (kB d0))
def r14 := kR (kA (kA d12))
def d16 := kA (kB (kA d12))
def r17 := kR (kA d16)
def r21 := kR (kA (kA (kA (kB d16))))
def r24 := kR (kA (kA (kB (kA (kA (kB d16))))))
def r27 := kR (kB (kA (kB d16)))
def r29 := kR (kA (kB d12))
def c18 : Code := .block 1 (.seq (.seq (.region 6 r21 false) (.cond (.tmp 15) (.seq (.region 7 r24 false) .ret) .skip)) (.region 8 r27 false))
def c17 : Code := .region 5 r17 false
def c0 : Code := .seq (.region 0 r1 false) (.seq (.region 1 r3 false) (.seq (.seq (.region 2 r6 false) (.cond (.tmp 9) (.seq (.region 3 r9 false) .ret) .skip)) (.seq (.seq (.region 4 r14 false) (.block 0 (.rangeFunc (.tmp 10) #[11] c17 c18))) (.seq (.region 9 r29 false) .ret))))
theorem body : Tryz.f14.body = some c0 := by kernel_rfl
section
variable {base : Nat} {W0 : World} {β0 : Bt}
def J0 (D : Dp) (H : Hd) (l : Nat) (y3 : (Option HA)) (y4 : (Option HA)) (y5 : (Option HA)) (y6 : (Option HA)) (y11 : Int) (S : HS) : Option (HV × HS) :=
 (Option.bind (HS.begin_ S l) fun p12 =>
 (Option.bind (y6) fun p13 =>
 (Option.bind (HS.ldSl p12 p13) fun p14 =>
 (Option.bind (y3) fun p15 =>
 (Option.bind (HS.ldI p12 .i64 p15) fun p16 =>
 (if (Sl.len p14 : Int) ≥ p16 then
 (Option.bind (y4) fun p18 =>
 (Option.bind (HS.sets p12 p18 [(Sl.hv Sl.nil)]) fun p19 =>
 (Option.bind (y5) fun p20 =>
 (Option.bind (HS.sets p19 p20 [(.bool false)]) fun p21 =>
 (HS.endr p21 l (some .ret)))))) else
 (Option.bind (y6) fun p22 =>
 (Option.bind (HS.ldSl p12 p22) fun p23 =>
 (letv (HS.lit p12 [[(.int .i64 y11)]] 1) fun p24 =>
 (Option.bind (HS.rows (p24.2) (p24.1) 1) fun p25 =>
 (Option.bind (HS.app (p24.2) p23 p25 1) fun p26 =>
 (Option.bind (y6) fun p27 =>
 (Option.bind (HS.sets (p26.2) p27 [(Sl.hv (p26.1))]) fun p28 =>
 (HS.endr p28 l none))))))))))))))
theorem J0_snd {l : Nat} (hD : DSound Tryz.prog base W0 D) (hH : HSound Tryz.prog base W0 β0 H)  {y3 : (Option HA)} {y4 : (Option HA)} {y5 : (Option HA)} {y6 : (Option HA)} {y11 : Int} {S : HS} {p : HV × HS} (h : J0 D H l y3 y4 y5 y6 y11 S = some p) : HRun Tryz.prog base W0 β0 14 (some l) [.code c17,.beginRound,.code c18] ⟨[Ga,Gb,Gc,(.ptr y3),(.ptr y4),(.ptr y5),(.ptr y6),Gh,Gi,Gj,Gk,(.int .i64 y11),Gm,Gn,Go,Gp,Gq,Gr,Gs,Gt,Gu],[]⟩ S (fun v S1 => v = p.1 ∧ S1 = p.2) := by
 unfold J0 at h
 refine qR rfl rfl (qS 7 rfl (oA · rfl) (rE ?_))
 try dsimp only [w0,w1,w2,w3]
 obtain ⟨p12,hp12,h⟩ := bindo h
 refine q_begin hp12 ?_
 obtain ⟨p13,hp13,h⟩ := bindo h
 obtain ⟨p14,hp14,h⟩ := bindo h
 obtain ⟨p15,hp15,h⟩ := bindo h
 obtain ⟨p16,hp16,h⟩ := bindo h
 refine q_block rfl (qQ rfl (qQ rfl (qR rfl rfl (qS 12 rfl (oL · sc42 rfl hp13 (ldSl_out hp14)) (qS 13 rfl (ok_len_sl (q := Sl.a p14) (n := Sl.len p14) (z := Sl.cap p14) · rfl tu42 (.tmp rfl)) (qS 14 rfl (oL · sc3 rfl hp15 (ldI_out hp16)) (qS 15 rfl (oB · rfl rfl rfl) (rE ?_))))))))
 try dsimp only [w0,w1,w2,w3]
 rcases ifc h with ⟨hc17,h⟩ | ⟨hc17,h⟩
 ·obtain ⟨p18,hp18,h⟩ := bindo h
  obtain ⟨p19,hp19,h⟩ := bindo h
  obtain ⟨p20,hp20,h⟩ := bindo h
  obtain ⟨p21,hp21,h⟩ := bindo h
  refine q_cond_t rfl (.tmp rfl) (decide_eq_true hc17) (qQ rfl (qR rfl rfl (qN rfl (ok_store_s (v := (Sl.hv Sl.nil)) · sz42 (.tmp rfl) hp18 (.const fun _ => .slNil none) rfl hp19) (qN rfl (ok_store_s (v := (.bool false)) · sz4 (.tmp rfl) hp20 (.bool _) rfl hp21) (rE ?_)))))
  try dsimp only [w0,w1,w2,w3]
  exact q_round_ret rfl h ⟨rfl,rfl⟩
 ·obtain ⟨p22,hp22,h⟩ := bindo h
  obtain ⟨p23,hp23,h⟩ := bindo h
  obtain ⟨p24,hp24,h⟩ := leto h
  obtain ⟨p25,hp25,h⟩ := bindo h
  obtain ⟨p26,hp26,h⟩ := bindo h
  refine q_cond_f rfl (.tmp rfl) (decide_eq_false hc17) (q_skipc rfl (qR rfl rfl (qS 16 rfl (oL · sc42 rfl hp22 (ldSl_out hp23)) (qS 17 rfl (oM · rfl) (qS 18 rfl (ok_buildSlice_s (xs := [(.tmp 17)]) el42 · rfl rfl (by decide) (.cons (.tmp rfl) Evs.nil) rfl rfl hp24) (qS 19 rfl (ok_append (s := p23) (s1 := (p24.1)) el42 · rfl rfl ⟨_,tu42⟩ (.tmp rfl) (.tmp rfl) hp25 hp26) ?_))))))
  try dsimp only [w0,w1,w2,w3]
  obtain ⟨p27,hp27,h⟩ := bindo h
  obtain ⟨p28,hp28,h⟩ := bindo h
  refine qN rfl (ok_store_s (v := (Sl.hv (p26.1))) · sz42 (.tmp rfl) hp27 (.tmp rfl) rfl hp28) (rE ?_)
  try dsimp only [w0,w1,w2,w3]
  refine hr_inBlock ?_
  exact q_round_end h ⟨rfl,rfl⟩
def f (D : Dp) (H : Hd) (x0 : HV) (x1 : Int) (S : HS) : Option ((Sl × Bool) × HS) :=
 (letv (HS.new S (.cells 1 [[(.int .i64 x1)]] true)) fun p1 =>
 (letv (HS.new p1 (.cells 1 [[(Sl.hv Sl.nil)]] true)) fun p2 =>
 (letv (HS.new p2 (.cells 1 [[(.bool false)]] true)) fun p3 =>
 (letv (HS.new p3 (.cells 1 [[(Sl.hv Sl.nil)]] true)) fun p4 =>
 (Option.bind (HV.isNilFn x0) fun p5 =>
 (if (p5) = true then
 (Option.bind (HS.sets p4 (HA.cell0 p1.next) [(Sl.hv Sl.nil)]) fun p7 =>
 (Option.bind (HS.sets p7 (HA.cell0 p2.next) [(.bool false)]) fun p8 =>
 (Option.bind (HS.leave p8 []) fun p9 =>
 (Option.bind (HS.ldSl p9 (HA.cell0 p1.next)) fun p10 =>
 (Option.bind (HS.ldB p9 (HA.cell0 p2.next)) fun p11 =>
 some ((p10,p11),p9)))))) else
 (Option.bind (D (Hd.set H (HS.next p4 + 1) fun vs T =>
 (Option.bind (HS.lp T (HS.next p4 + 1)) fun u31 =>
 (Option.bind (args1 vs) fun ar29 =>
 (Option.bind (dI .i64 ar29) fun p30 =>
 (J0 D H (HS.next p4 + 1) (some (HA.cell0 S.next)) (some (HA.cell0 p1.next)) (some (HA.cell0 p2.next)) (some (HA.cell0 p3.next)) p30 T))))) x0 [.fn (.yield (HS.next p4 + 1)) [] []] (HS.new (HS.new p4 .defer) (.loop .ready none))) fun p32 =>
 (Option.bind (HS.finish p32.2 (HS.next p4 + 1)) fun p33 =>
 (Option.bind (pcode p33.1) fun n34 =>
 (if n34 = 0 then
 (Option.bind (HS.ldSl p33.2 (HA.cell0 p3.next)) fun p36 =>
 (Option.bind (HS.sets p33.2 (HA.cell0 p1.next) [(Sl.hv p36)]) fun p37 =>
 (Option.bind (HS.sets p37 (HA.cell0 p2.next) [(.bool true)]) fun p38 =>
 (Option.bind (HS.leave p38 (HS.next p4 :: [])) fun p39 =>
 (Option.bind (HS.ldSl p39 (HA.cell0 p1.next)) fun p40 =>
 (Option.bind (HS.ldB p39 (HA.cell0 p2.next)) fun p41 =>
 some ((p40,p41),p39))))))) else
 (if n34 = 1 then
 (Option.bind (HS.leave p33.2 (HS.next p4 :: [])) fun p43 =>
 (Option.bind (HS.ldSl p43 (HA.cell0 p1.next)) fun p44 =>
 (Option.bind (HS.ldB p43 (HA.cell0 p2.next)) fun p45 =>
 some ((p44,p45),p43)))) else
 none)))))))))))
theorem snd {x0 : HV} {x1 : Int} {S : HS} (hD : DSound Tryz.prog base W0 D) (hH : HSound Tryz.prog base W0 β0 H)  {p : (Sl × Bool) × HS} (h : f D H x0 x1 S = some p) : HCall Tryz.prog base W0 β0 14 [x0,(.int .i64 x1)] S (fun v S1 => v = (.tup [(Sl.hv p.1.1),(.bool p.1.2)]) ∧ S1 = p.2) := by
 unfold f at h
 refine HCall.of_run at_.at_ body ?_
 show HRun Tryz.prog base W0 β0 14 none [.code c0] ⟨[x0,(.int .i64 x1),τ,τ,τ,τ,τ,τ,τ,τ,τ,τ,τ,τ,τ,τ,τ,τ,τ,τ,τ],[]⟩ S _
 obtain ⟨p1,hp1,h⟩ := leto h
 obtain ⟨p2,hp2,h⟩ := leto h
 obtain ⟨p3,hp3,h⟩ := leto h
 refine qQ rfl (qR rfl rfl (qS 3 rfl (ok_box_e · (.tmp rfl) (Nat.zero_lt_succ _) rfl hp1) (qS 4 rfl (ok_alloc_e · zi42 zr42 (by decide) rfl hp2) (qS 5 rfl (ok_alloc_e · zi4 zr4 (by decide) rfl hp3) (rE ?_)))))
 try dsimp only [w0,w1,w2,w3]
 obtain ⟨p4,hp4,h⟩ := leto h
 refine qQ rfl (qR rfl rfl (qS 6 rfl (ok_alloc_e · zi42 zr42 (by decide) rfl hp4) (rE ?_)))
 try dsimp only [w0,w1,w2,w3]
 obtain ⟨p5,hp5,h⟩ := bindo h
 refine qQ rfl (qQ rfl (qR rfl rfl (qS 8 rfl (oM · rfl) (qS 9 rfl (ok_nil_fn · tu46 (.tmp rfl) hp5 (.inl ⟨rfl,rfl⟩)) (rE ?_)))))
 try dsimp only [w0,w1,w2,w3]
 rcases ifc h with ⟨hc6,h⟩ | ⟨hc6,h⟩
 ·obtain ⟨p7,hp7,h⟩ := bindo h
  obtain ⟨p8,hp8,h⟩ := bindo h
  refine q_cond_t rfl (.tmp rfl) hc6 (qQ rfl (qR rfl rfl (qN rfl (ok_store_s (v := (Sl.hv Sl.nil)) · sz42 (.tmp rfl) rfl (.const fun _ => .slNil none) rfl hp7) (qN rfl (ok_store_s (v := (.bool false)) · sz4 (.tmp rfl) rfl (.bool _) rfl hp8) (rE ?_)))))
  try dsimp only [w0,w1,w2,w3]
  obtain ⟨p9,hp9,h⟩ := bindo h
  obtain ⟨p10,hp10,h⟩ := bindo h
  obtain ⟨p11,hp11,h⟩ := bindo h
  cases h
  exact q_ret rfl at_.at_ hp9 (resL (rs := [.cell 4 42,.cell 5 4]) rfl (.cons (.cell rfl rfl sc42 (ldSl_out hp10)) (.cons (.cell rfl rfl sc4 (ldB_out hp11)) .nil)) (by simp)) ⟨rfl,rfl⟩
 ·refine q_cond_f rfl (.tmp rfl) (bfalse hc6) (q_skipc rfl (qQ rfl (qQ rfl (qR rfl rfl (qS 10 rfl (oM · rfl) (rE ?_))))))
  try dsimp only [w0,w1,w2,w3]
  obtain ⟨p32,hp32,h⟩ := bindo h
  obtain ⟨p33,hp33,h⟩ := bindo h
  obtain ⟨n34,hn34,h⟩ := bindo h
  refine q_block rfl ?_
  refine q_range (D := D) (H := H) rfl (.tmp rfl) hD hH hp32 hp33 ?_ ?_
  ·intro β1 hle hLA vs T u T' hr
   obtain ⟨u31,hu31,hr⟩ := bindo hr
   obtain ⟨ar29,har29,hr⟩ := bindo hr
   obtain ⟨p30,hp30,hr⟩ := bindo hr
   rw [args1_out har29]
   refine q_yield2 hLA hu31 rfl rfl ?_
   rw [dI_out hp30]
   simp only [HAct.params,List.set_cons_zero,List.set_cons_succ]
   exact J0_snd hD (hH.up hle) hr
  ·rcases ifc h with ⟨hc35,h⟩ | ⟨hc35,h⟩
   ·rw [pcode0 hn34 hc35]
    simp only [jumped_none,jumped_some]
    obtain ⟨p36,hp36,h⟩ := bindo h
    obtain ⟨p37,hp37,h⟩ := bindo h
    obtain ⟨p38,hp38,h⟩ := bindo h
    refine hr_inBlock (qQ rfl (qR rfl rfl (qS 20 rfl (oL · sc42 rfl rfl (ldSl_out hp36)) (qN rfl (ok_store_s (v := (Sl.hv p36)) · sz42 (.tmp rfl) rfl (.tmp rfl) rfl hp37) (qN rfl (ok_store_s (v := (.bool true)) · sz4 (.tmp rfl) rfl (.bool _) rfl hp38) (rE ?_))))))
    try dsimp only [w0,w1,w2,w3]
    obtain ⟨p39,hp39,h⟩ := bindo h
    obtain ⟨p40,hp40,h⟩ := bindo h
    obtain ⟨p41,hp41,h⟩ := bindo h
    cases h
    exact q_ret rfl at_.at_ hp39 (resL (rs := [.cell 4 42,.cell 5 4]) rfl (.cons (.cell rfl rfl sc42 (ldSl_out hp40)) (.cons (.cell rfl rfl sc4 (ldB_out hp41)) .nil)) (by simp)) ⟨rfl,rfl⟩
   ·rcases ifc h with ⟨hc42,h⟩ | ⟨hc42,h⟩
    ·rw [pcode1 hn34 hc42]
     simp only [jumped_none,jumped_some]
     obtain ⟨p43,hp43,h⟩ := bindo h
     obtain ⟨p44,hp44,h⟩ := bindo h
     obtain ⟨p45,hp45,h⟩ := bindo h
     cases h
     exact q_ret rfl at_.at_ hp43 (resL (rs := [.cell 4 42,.cell 5 4]) rfl (.cons (.cell rfl rfl sc42 (ldSl_out hp44)) (.cons (.cell rfl rfl sc4 (ldB_out hp45)) .nil)) (by simp)) ⟨rfl,rfl⟩
    ·cases h
end
end rollcalllaw20_numbers
namespace rollcallref10_Same
theorem at_ : FnAt Tryz.prog 16 Tryz.f16 := ⟨Tryz.func16,by kernel_rfl⟩
def d0 := (Tryz.f16.body).getD .skip
def r1 := kR (kA d0)
def r4 := kR (kA (kA (kB d0)))
def r7 := kR (kA (kA (kB (kA (kB d0)))))
def d11 := kA (kB (kB d0))
def r12 := kR (kA d11)
def d15 := kA (kA (kB d11))
def r17 := kR (kA (kA d15))
def r24 := kR (kA (kA (kA (kB d15))))
def r27 := kR (kA (kA (kB (kA (kA (kB d15))))))
def r30 := kR (kB (kB d15))
def r32 := kR (kA (kB (kB (kB d0))))
def c31 : Code := .seq (.region 8 r32 false) .ret
def c15 : Code := .seq (.seq (.region 4 r17 false) (.cond (.tmp 14) .skip (.exit 0))) (.seq (.block 1 (.seq (.region 6 r24 true) (.cond (.tmp 25) (.seq (.region 7 r27 false) .ret) .skip))) (.region 5 r30 false))
def c0 : Code := .seq (.region 0 r1 false) (.seq (.seq (.region 1 r4 false) (.cond (.tmp 10) (.seq (.region 2 r7 false) .ret) .skip)) (.seq (.seq (.region 3 r12 false) (.block 0 (.loop c15))) c31))
theorem body : Tryz.f16.body = some c0 := by kernel_rfl
section
variable {base : Nat} {W0 : World} {β0 : Bt}
def L0 (k : Nat) : Nat → Sl → Sl → Int → HS → Option ((Bool) × HS)
 | 0,_,_,_,_ => none
 | n + 1,y0,y1,y5,S =>
  (if y5 < (Sl.len y0 : Int) then
  (Option.bind (HS.idx S y0 y5 1) fun p3 =>
  (Option.bind (HS.ldI S .i64 p3) fun p4 =>
  (Option.bind (HS.idx S y1 y5 1) fun p5 =>
  (Option.bind (HS.ldI S .i64 p5) fun p6 =>
  (if (!decide (p4 = p6)) = true then
  some (false,S) else
  (L0 k n) y0 y1 (w64 (y5 + 1)) S))))) else
  some (true,S))
theorem L0_snd  : ∀ {n : Nat} ⦃y0 : Sl⦄ ⦃y1 : Sl⦄ ⦃y5 : Int⦄ ⦃S : HS⦄ ⦃p : (Bool) × HS⦄ ⦃Gc Gd Ge Gg Gh Gi Gj Gk Gl Gm Gn Go Gp Gq Gr Gs Gt Gu Gv Gw Gx Gy Gz : HV⦄,L0 k n y0 y1 y5 S = some p → HRun Tryz.prog base W0 β0 16 none [.inLoop c15,.inBlock 0,.code c31] ⟨[(Sl.hv y0),(Sl.hv y1),Gc,Gd,Ge,(.int .i64 y5),Gg,Gh,Gi,Gj,Gk,Gl,Gm,Gn,Go,Gp,Gq,Gr,Gs,Gt,Gu,Gv,Gw,Gx,Gy,Gz],[]⟩ S (fun v S1 => v = (.bool p.1) ∧ S1 = p.2) := by
 intro n
 induction n with
 | zero => intro _ _ _ _ _ _ _ _ _ _ _ _ _ _ _ _ _ _ _ _ _ _ _ _ _ _ _ _ h; cases h
 | succ n ih =>
  intro y0 y1 y5 S p Gc Gd Ge Gg Gh Gi Gj Gk Gl Gm Gn Go Gp Gq Gr Gs Gt Gu Gv Gw Gx Gy Gz h
  simp only [L0] at h
  refine hr_inLoop (qQ rfl (qQ rfl (qR rfl rfl (qS 11 rfl (oM · rfl) (qS 12 rfl (oM · rfl) (qS 13 rfl (ok_len_sl (q := Sl.a y0) (n := Sl.len y0) (z := Sl.cap y0) · rfl tu42 (.tmp rfl)) (qS 14 rfl (oB · rfl rfl rfl) (rE ?_))))))))
  try dsimp only [w0,w1,w2,w3]
  rcases ifc h with ⟨hc2,h⟩ | ⟨hc2,h⟩
  ·refine q_cond_t rfl (.tmp rfl) (decide_eq_true hc2) (q_skipc rfl (qQ rfl (q_block rfl (qQ rfl ?_))))
   refine x_start (cls := [0,0,1,1,0,0,1,1,0]) (rk := [0,1,2,3,4,5,6,7,8]) rfl (by kernel_rfl) ?_
   refine yf 17 [0] rfl (oM · rfl) ?_
   refine yf 18 [5] rfl (oM · rfl) ?_
   obtain ⟨p3,hp3,h⟩ := bindo h
   refine yr 19 [17,18] rfl (oX (s := y0) · tu42 sz3 rfl rfl hp3) ?_
   obtain ⟨p4,hp4,h⟩ := bindo h
   refine yr 20 [19] rfl (oL · sc3 rfl rfl (ldI_out hp4)) ?_
   try dsimp only [w0,w1,w2,w3]
   refine yf 21 [1] rfl (oM · rfl) ?_
   refine yf 22 [5] rfl (oM · rfl) ?_
   obtain ⟨p5,hp5,h⟩ := bindo h
   refine yr 23 [21,22] rfl (oX (s := y1) · tu42 sz3 rfl rfl hp5) ?_
   obtain ⟨p6,hp6,h⟩ := bindo h
   refine yr 24 [23] rfl (oL · sc3 rfl rfl (ldI_out hp6)) ?_
   try dsimp only [w0,w1,w2,w3]
   refine yf 25 [20,24] rfl (oB · rfl rfl rfl) ?_
   refine x_rest rfl ?_
   refine rE ?_
   try dsimp only [w0,w1,w2,w3]
   rcases ifc h with ⟨hc7,h⟩ | ⟨hc7,h⟩
   ·refine q_cond_t rfl (.tmp rfl) hc7 (qQ rfl (qR rfl rfl (qS 4 rfl (ok_assign · (.bool _)) (rE ?_))))
    cases h
    exact q_ret rfl at_.at_ rfl (res1 rfl rfl) ⟨rfl,rfl⟩
   ·refine q_cond_f rfl (.tmp rfl) (bfalse hc7) (q_skipc rfl (hr_inBlock (qR rfl rfl (qS 15 rfl (oM · rfl) (qS 16 rfl (oC · rfl rfl) (qS 5 rfl (oA · rfl) (rE ?_)))))))
    try dsimp only [w0,w1,w2,w3]
    exact ih h
  ·refine q_cond_f rfl (.tmp rfl) (decide_eq_false hc2) (q_exit rfl rfl (qQ rfl (qR rfl rfl (qS 4 rfl (ok_assign · (.bool _)) (rE ?_)))))
   cases h
   exact q_ret rfl at_.at_ rfl (res1 rfl rfl) ⟨rfl,rfl⟩
def f (k : Nat) (x0 : Sl) (x1 : Sl) (S : HS) : Option ((Bool) × HS) :=
 (if (!decide ((Sl.len x0 : Int) = (Sl.len x1 : Int))) = true then
 some (false,S) else
 L0 k k x0 x1 0 S)
theorem snd {x0 : Sl} {x1 : Sl} {S : HS}  {p : (Bool) × HS} (h : f k x0 x1 S = some p) : HCall Tryz.prog base W0 β0 16 [(Sl.hv x0),(Sl.hv x1)] S (fun v S1 => v = (.bool p.1) ∧ S1 = p.2) := by
 unfold f at h
 refine HCall.of_run at_.at_ body ?_
 show HRun Tryz.prog base W0 β0 16 none [.code c0] ⟨[(Sl.hv x0),(Sl.hv x1),τ,τ,τ,τ,τ,τ,τ,τ,τ,τ,τ,τ,τ,τ,τ,τ,τ,τ,τ,τ,τ,τ,τ,τ],[]⟩ S _
 refine qQ rfl (qR rfl rfl (qS 4 rfl (ok_assign · (.bool _)) (rE ?_)))
 try dsimp only [w0,w1,w2,w3]
 refine qQ rfl (qQ rfl (qR rfl rfl (qS 6 rfl (oM · rfl) (qS 7 rfl (ok_len_sl (q := Sl.a x0) (n := Sl.len x0) (z := Sl.cap x0) · rfl tu42 (.tmp rfl)) (qS 8 rfl (oM · rfl) (qS 9 rfl (ok_len_sl (q := Sl.a x1) (n := Sl.len x1) (z := Sl.cap x1) · rfl tu42 (.tmp rfl)) ?_))))))
 try dsimp only [w0,w1,w2,w3]
 refine qS 10 rfl (oB · rfl rfl rfl) (rE ?_)
 try dsimp only [w0,w1,w2,w3]
 rcases ifc h with ⟨hc1,h⟩ | ⟨hc1,h⟩
 ·refine q_cond_t rfl (.tmp rfl) hc1 (qQ rfl (qR rfl rfl (qS 4 rfl (ok_assign · (.bool _)) (rE ?_))))
  cases h
  exact q_ret rfl at_.at_ rfl (res1 rfl rfl) ⟨rfl,rfl⟩
 ·refine q_cond_f rfl (.tmp rfl) (bfalse hc1) (q_skipc rfl (qQ rfl (qQ rfl (qR rfl rfl (qS 5 rfl (ok_assign · (.int _ _)) (rE ?_))))))
  try dsimp only [w0,w1,w2,w3]
  refine q_block rfl (q_loop rfl ?_)
  try dsimp only [w0,w1,w2,w3]
  exact L0_snd  h
end
end rollcallref10_Same
namespace rooms_Rooms_Len
theorem at_ : FnAt Tryz.prog 27 Tryz.f27 := ⟨Tryz.func27,by kernel_rfl⟩
def d0 := (Tryz.f27.body).getD .skip
def r1 := kR (kA d0)
def r4 := kR (kA (kA (kB d0)))
def r7 := kR (kA (kA (kB (kA (kB d0)))))
def r11 := kR (kA (kB (kB d0)))
def c0 : Code := .seq (.region 0 r1 false) (.seq (.seq (.region 1 r4 false) (.cond (.tmp 4) (.seq (.region 2 r7 false) .ret) .skip)) (.seq (.region 3 r11 false) .ret))
theorem body : Tryz.f27.body = some c0 := by kernel_rfl
section
variable {base : Nat} {W0 : World} {β0 : Bt}
def f (x0 : (Option HA)) (S : HS) : Option ((Int) × HS) :=
 (if (Option.isNone x0) = true then
 some (0,S) else
 (Option.bind (x0) fun p2 =>
 (Option.bind (HS.ldP S (HA.fld p2 15)) fun p3 =>
 (Option.bind (book_Book_room_Room_Len.f p3 S) fun p4 =>
 some (p4.1,p4.2)))))
theorem snd {x0 : (Option HA)} {S : HS}  {p : (Int) × HS} (h : f x0 S = some p) : HCall Tryz.prog base W0 β0 27 [(.ptr x0)] S (fun v S1 => v = (.int .i64 p.1) ∧ S1 = p.2) := by
 unfold f at h
 refine HCall.of_run at_.at_ body ?_
 show HRun Tryz.prog base W0 β0 27 none [.code c0] ⟨[(.ptr x0),τ,τ,τ,τ,τ,τ,τ,τ,τ],[]⟩ S _
 refine qQ rfl (qR rfl rfl (qS 2 rfl (ok_assign · (.int _ _)) (rE ?_)))
 try dsimp only [w0,w1,w2,w3]
 refine qQ rfl (qQ rfl (qR rfl rfl (qS 3 rfl (oM · rfl) (qS 4 rfl (ok_nil_ptr · tu25 (.tmp rfl) (.inl ⟨rfl,rfl⟩)) (rE ?_)))))
 try dsimp only [w0,w1,w2,w3]
 rcases ifc h with ⟨hc1,h⟩ | ⟨hc1,h⟩
 ·refine q_cond_t rfl (.tmp rfl) hc1 (qQ rfl (qR rfl rfl (qS 2 rfl (ok_assign · (.int _ _)) (rE ?_))))
  cases h
  exact q_ret rfl at_.at_ rfl (res1 rfl rfl) ⟨rfl,rfl⟩
 ·obtain ⟨p2,hp2,h⟩ := bindo h
  obtain ⟨p3,hp3,h⟩ := bindo h
  refine q_cond_f rfl (.tmp rfl) (bfalse hc1) (q_skipc rfl (qQ rfl (qR rfl rfl (qS 5 rfl (oM · rfl) (qS 6 rfl (oN · rfl hp2) (qS 7 rfl (oF · fi83_1 (by decide) rfl rfl) (qS 8 rfl (oL · sc75 rfl rfl (ldP_out hp3)) ?_)))))))
  try dsimp only [w0,w1,w2,w3]
  obtain ⟨p4,hp4,h⟩ := bindo h
  refine q_call (dst := some 9) rfl (.func _) (.cons (.tmp rfl) Evs.nil) (HInv.static book_Book_room_Room_Len.at_ book_Book_room_Room_Len.body (book_Book_room_Room_Len.snd  hp4)) ?_
  rintro _ _ ⟨rfl,rfl⟩
  refine qS 2 rfl (oA · rfl) (rE ?_)
  cases h
  exact q_ret rfl at_.at_ rfl (res1 rfl rfl) ⟨rfl,rfl⟩
end
end rooms_Rooms_Len
namespace rollcalllaw20_awake
theorem at_ : FnAt Tryz.prog 7 Tryz.f7 := ⟨Tryz.func7,by kernel_rfl⟩
def d0 := (Tryz.f7.body).getD .skip
def r1 := kR (kA d0)
def r3 := kR (kA (kB d0))
def r5 := kR (kA (kB (kB d0)))
def d6 := kB (kB (kB d0))
def r7 := kR (kA d6)
def r9 := kR (kA (kB d6))
def r11 := kR (kA (kB (kB d6)))
def r13 := kR (kA (kB (kB (kB d6))))
def r15 := kR (kA (kB (kB (kB (kB d6)))))
def c16 : Code := .ret
def c0 : Code := .seq (.region 0 r1 false) (.seq (.region 1 r3 false) (.seq (.region 2 r5 false) (.seq (.region 3 r7 false) (.seq (.region 4 r9 false) (.seq (.region 5 r11 false) (.seq (.region 6 r13 false) (.seq (.region 7 r15 false) c16)))))))
theorem body : Tryz.f7.body = some c0 := by kernel_rfl
section
variable {base : Nat} {W0 : World} {β0 : Bt}
def J1 (D : Dp) (H : Hd) (k : Nat) (y30 : Bool) (S : HS) : Option ((Bool) × HS) :=
 some (y30,S)
theorem J1_snd (hD : DSound Tryz.prog base W0 D) (hH : HSound Tryz.prog base W0 β0 H)  {y30 : Bool} {S : HS} {p : (Bool) × HS} (h : J1 D H k y30 S = some p) : HRun Tryz.prog base W0 β0 7 none [.inRegion r15 [11],.code c16] ⟨[Ga,Gb,Gc,Gd,Ge,Gf,Gg,Gh,Gi,Gj,Gk,Gl,Gm,Gn,Go,Gp,Gq,Gr,Gs,Gt,Gu,Gv,Gw,Gx,Gy,Gz,Ka,Kb,Kc,Kd,(.bool y30)],[]⟩ S (fun v S1 => v = (.bool p.1) ∧ S1 = p.2) := by
 unfold J1 at h
 refine qS 0 rfl (oA · rfl) (rE ?_)
 cases h
 exact q_ret rfl at_.at_ rfl (res1 rfl rfl) ⟨rfl,rfl⟩
def J0 (D : Dp) (H : Hd) (k : Nat) (y1 : (Option HA)) (y25 : Bool) (S : HS) : Option ((Bool) × HS) :=
 (if y25 = true then
 (Option.bind (rooms_Rooms_Len.f y1 S) fun p12 =>
 J1 D H k (decide (p12.1 = 3)) p12.2) else
 J1 D H k false S)
theorem J0_snd (hD : DSound Tryz.prog base W0 D) (hH : HSound Tryz.prog base W0 β0 H)  {y1 : (Option HA)} {y25 : Bool} {S : HS} {p : (Bool) × HS} (h : J0 D H k y1 y25 S = some p) : HRun Tryz.prog base W0 β0 7 none [.inRegion r15 [6,7,8,9,10,11],.code c16] ⟨[Ga,(.ptr y1),Gc,Gd,Ge,Gf,Gg,Gh,Gi,Gj,Gk,Gl,Gm,Gn,Go,Gp,Gq,Gr,Gs,Gt,Gu,Gv,Gw,Gx,Gy,(.bool y25),Ka,Kb,Kc,Kd,Ke],[]⟩ S (fun v S1 => v = (.bool p.1) ∧ S1 = p.2) := by
 unfold J0 at h
 refine qS 26 rfl (oM · rfl) ?_
 rcases ifc h with ⟨hc11,h⟩ | ⟨hc11,h⟩
 ·refine qG 26 27 rfl hc11 (oM · rfl) ?_
  try dsimp only [w0,w1,w2,w3]
  obtain ⟨p12,hp12,h⟩ := bindo h
  refine q_call_g (t := 26) (dst := some 28) rfl rfl rfl hc11 (.func _) (.cons (.tmp rfl) Evs.nil) (HInv.static rooms_Rooms_Len.at_ rooms_Rooms_Len.body (rooms_Rooms_Len.snd  hp12)) ?_
  rintro _ _ ⟨rfl,rfl⟩
  refine qG 26 29 rfl hc11 (oC · rfl rfl) (qS 30 rfl (ok_pick_tt · (.tmp rfl) hc11 (.tmp rfl)) ?_)
  try dsimp only [w0,w1,w2,w3]
  exact J1_snd hD hH h
 ·refine q_skip (dst := some 27) (t := 26) rfl rfl rfl (bfalse hc11) ?_
  try dsimp only [w0,w1,w2,w3]
  refine q_skip (dst := some 28) (t := 26) rfl rfl rfl (bfalse hc11) (q_skip (dst := some 29) (t := 26) rfl rfl rfl (bfalse hc11) (qS 30 rfl (ok_pick_ff · (.tmp rfl) (bfalse hc11) (.bool _)) ?_))
  try dsimp only [w0,w1,w2,w3]
  exact J1_snd hD hH h
def f (D : Dp) (H : Hd) (k : Nat) (S : HS) : Option ((Bool) × HS) :=
 (Option.bind (rooms_New.f [] [] [] [] 0 0 5 5 5 0 0 0 0 0 0 S) fun p1 =>
 (Option.bind (rooms_Rooms_Join.f D H k p1.1 1 ([35,97] : List UInt8) p1.2) fun p2 =>
 (Option.bind (rooms_Rooms_Join.f D H k p1.1 1 ([35,98] : List UInt8) p2.2) fun p3 =>
 (Option.bind (rooms_Rooms_Join.f D H k p1.1 2 ([35,66] : List UInt8) p3.2) fun p4 =>
 (Option.bind (rooms_Rooms_Join.f D H k p1.1 3 ([35,99] : List UInt8) p4.2) fun p5 =>
 (Option.bind (rooms_Rooms_Peers.f D H k p1.1 1 p5.2) fun p6 =>
 (Option.bind (rollcalllaw20_numbers.f D H p6.1 9 p6.2) fun p7 =>
 (if p7.1.2 = true then
 (letv (HS.lit p7.2 [[(.int .i64 2)]] 1) fun p9 =>
 (Option.bind (rollcallref10_Same.f k p7.1.1 (p9.1) (p9.2)) fun p10 =>
 J0 D H k p1.1 p10.1 p10.2)) else
 J0 D H k p1.1 false p7.2))))))))
theorem snd {S : HS} (hD : DSound Tryz.prog base W0 D) (hH : HSound Tryz.prog base W0 β0 H)  {p : (Bool) × HS} (h : f D H k S = some p) : HCall Tryz.prog base W0 β0 7 [] S (fun v S1 => v = (.bool p.1) ∧ S1 = p.2) := by
 unfold f at h
 refine HCall.of_run at_.at_ body ?_
 show HRun Tryz.prog base W0 β0 7 none [.code c0] ⟨[τ,τ,τ,τ,τ,τ,τ,τ,τ,τ,τ,τ,τ,τ,τ,τ,τ,τ,τ,τ,τ,τ,τ,τ,τ,τ,τ,τ,τ,τ,τ],[]⟩ S _
 refine qQ rfl (qR rfl rfl (qS 0 rfl (ok_assign · (.bool _)) (rE ?_)))
 try dsimp only [w0,w1,w2,w3]
 obtain ⟨p1,hp1,h⟩ := bindo h
 refine qQ rfl (qR rfl rfl (qS 4 rfl (ok_build (is := [7,6,8]) (xs := [(.const (.int .i64 5)),(.const (.int .i64 5)),(.const (.int .i64 5))]) (r := [(.str []),(.str []),(.str []),(.str []),(.int .i64 0),(.int .i64 0),(.int .i64 5),(.int .i64 5),(.int .i64 5),(.int .i64 0),(.int .i64 0),(.int .i64 0),(.int .i64 0),(.int .i64 0),(.int .i64 0)]) st28 · rfl rfl (.cons (.int _ _) (.cons (.int _ _) (.cons (.int _ _) Evs.nil))) rfl) (q_call (dst := some 5) rfl (.func _) (.cons (.tmp rfl) Evs.nil) (HInv.static rooms_New.at_ rooms_New.body (rooms_New.snd  hp1)) ?_)))
 rintro _ _ ⟨rfl,rfl⟩
 refine qS 1 rfl (oA · rfl) (rE ?_)
 try dsimp only [w0,w1,w2,w3]
 obtain ⟨p2,hp2,h⟩ := bindo h
 refine qQ rfl (qR rfl rfl (qS 6 rfl (oM · rfl) (q_call (dst := some 7) rfl (.func _) (.cons (.tmp rfl) (.cons (.int _ _) (.cons (.str _) Evs.nil))) (HInv.static rooms_Rooms_Join.at_ rooms_Rooms_Join.body (rooms_Rooms_Join.snd hD hH hp2)) ?_)))
 rintro _ _ ⟨rfl,rfl⟩
 refine rE ?_
 try dsimp only [w0,w1,w2,w3]
 obtain ⟨p3,hp3,h⟩ := bindo h
 refine qQ rfl (qR rfl rfl (qS 8 rfl (oM · rfl) (q_call (dst := some 9) rfl (.func _) (.cons (.tmp rfl) (.cons (.int _ _) (.cons (.str _) Evs.nil))) (HInv.static rooms_Rooms_Join.at_ rooms_Rooms_Join.body (rooms_Rooms_Join.snd hD hH hp3)) ?_)))
 rintro _ _ ⟨rfl,rfl⟩
 refine rE ?_
 try dsimp only [w0,w1,w2,w3]
 obtain ⟨p4,hp4,h⟩ := bindo h
 refine qQ rfl (qR rfl rfl (qS 10 rfl (oM · rfl) (q_call (dst := some 11) rfl (.func _) (.cons (.tmp rfl) (.cons (.int _ _) (.cons (.str _) Evs.nil))) (HInv.static rooms_Rooms_Join.at_ rooms_Rooms_Join.body (rooms_Rooms_Join.snd hD hH hp4)) ?_)))
 rintro _ _ ⟨rfl,rfl⟩
 refine rE ?_
 try dsimp only [w0,w1,w2,w3]
 obtain ⟨p5,hp5,h⟩ := bindo h
 refine qQ rfl (qR rfl rfl (qS 12 rfl (oM · rfl) (q_call (dst := some 13) rfl (.func _) (.cons (.tmp rfl) (.cons (.int _ _) (.cons (.str _) Evs.nil))) (HInv.static rooms_Rooms_Join.at_ rooms_Rooms_Join.body (rooms_Rooms_Join.snd hD hH hp5)) ?_)))
 rintro _ _ ⟨rfl,rfl⟩
 refine rE ?_
 try dsimp only [w0,w1,w2,w3]
 obtain ⟨p6,hp6,h⟩ := bindo h
 refine qQ rfl (qR rfl rfl (qS 15 rfl (oM · rfl) (q_call (dst := some 16) rfl (.func _) (.cons (.tmp rfl) (.cons (.int _ _) Evs.nil)) (HInv.static rooms_Rooms_Peers.at_ rooms_Rooms_Peers.body (rooms_Rooms_Peers.snd hD hH hp6)) ?_)))
 rintro _ _ ⟨rfl,rfl⟩
 obtain ⟨p7,hp7,h⟩ := bindo h
 refine q_call (dst := some 17) rfl (.func _) (.cons (.tmp rfl) (.cons (.int _ _) Evs.nil)) (HInv.static rollcalllaw20_numbers.at_ rollcalllaw20_numbers.body (rollcalllaw20_numbers.snd hD hH hp7)) ?_
 rintro _ _ ⟨rfl,rfl⟩
 refine qS 14 rfl (oM · rfl) ?_
 try dsimp only [w0,w1,w2,w3]
 refine qS 18 rfl (ok_extract · (.tmp rfl) rfl) (qS 19 rfl (ok_extract · (.tmp rfl) rfl) (qS 2 rfl (oA · rfl) (qS 3 rfl (oA · rfl) (rE ?_))))
 try dsimp only [w0,w1,w2,w3]
 refine qQ rfl (qR rfl rfl (qS 20 rfl (oM · rfl) (qS 21 rfl (oM · rfl) ?_)))
 rcases ifc h with ⟨hc8,h⟩ | ⟨hc8,h⟩
 ·obtain ⟨p9,hp9,h⟩ := leto h
  refine qG 21 22 rfl hc8 (oM · rfl) (qG 21 23 rfl hc8 (ok_buildSlice_s (xs := [(.const (.int .i64 2))]) el42 · rfl rfl (by decide) (.cons (.int _ _) Evs.nil) rfl rfl hp9) ?_)
  try dsimp only [w0,w1,w2,w3]
  obtain ⟨p10,hp10,h⟩ := bindo h
  refine q_call_g (t := 21) (dst := some 24) rfl rfl rfl hc8 (.func _) (.cons (.tmp rfl) (.cons (.tmp rfl) Evs.nil)) (HInv.static rollcallref10_Same.at_ rollcallref10_Same.body (rollcallref10_Same.snd  hp10)) ?_
  rintro _ _ ⟨rfl,rfl⟩
  refine qS 25 rfl (ok_pick_tt · (.tmp rfl) hc8 (.tmp rfl)) ?_
  try dsimp only [w0,w1,w2,w3]
  exact J0_snd hD hH h
 ·refine q_skip (dst := some 22) (t := 21) rfl rfl rfl (bfalse hc8) (q_skip (dst := some 23) (t := 21) rfl rfl rfl (bfalse hc8) ?_)
  try dsimp only [w0,w1,w2,w3]
  refine q_skip (dst := some 24) (t := 21) rfl rfl rfl (bfalse hc8) (qS 25 rfl (ok_pick_ff · (.tmp rfl) (bfalse hc8) (.bool _)) ?_)
  try dsimp only [w0,w1,w2,w3]
  exact J0_snd hD hH h
end
end rollcalllaw20_awake
namespace rollcalllaw20_great
theorem at_ : FnAt Tryz.prog 8 Tryz.f8 := ⟨Tryz.func8,by kernel_rfl⟩
def d0 := (Tryz.f8.body).getD .skip
def r1 := kR (kA d0)
def r4 := kR (kA (kA (kB d0)))
def r7 := kR (kA (kA (kB (kA (kB d0)))))
def d11 := kA (kB (kB d0))
def r12 := kR (kA d11)
def d15 := kA (kA (kB d11))
def r17 := kR (kA (kA d15))
def r24 := kR (kA (kA (kA (kB d15))))
def r27 := kR (kA (kA (kB (kA (kA (kB d15))))))
def r30 := kR (kB (kB d15))
def r32 := kR (kA (kB (kB (kB d0))))
def c31 : Code := .seq (.region 8 r32 false) .ret
def c15 : Code := .seq (.seq (.region 4 r17 false) (.cond (.tmp 10) .skip (.exit 0))) (.seq (.block 1 (.seq (.region 6 r24 false) (.cond (.tmp 19) (.seq (.region 7 r27 false) .ret) .skip))) (.region 5 r30 false))
def c0 : Code := .seq (.region 0 r1 false) (.seq (.seq (.region 1 r4 false) (.cond (.tmp 6) (.seq (.region 2 r7 false) .ret) .skip)) (.seq (.seq (.region 3 r12 false) (.block 0 (.loop c15))) c31))
theorem body : Tryz.f8.body = some c0 := by kernel_rfl
section
variable {base : Nat} {W0 : World} {β0 : Bt}
def L0 (k : Nat) : Nat → Sl → Int → HS → Option ((Bool) × HS)
 | 0,_,_,_ => none
 | n + 1,y0,y3,S =>
  (if y3 < (Sl.len y0 : Int) then
  (Option.bind (HS.idx S y0 y3 3) fun p3 =>
  (Option.bind (HS.ldS S (HA.fld p3 2)) fun p4 =>
  (if (List.length p4 : Int) > 60 then
  some (true,S) else
  (L0 k n) y0 (w64 (y3 + 1)) S))) else
  some (false,S))
theorem L0_snd  : ∀ {n : Nat} ⦃y0 : Sl⦄ ⦃y3 : Int⦄ ⦃S : HS⦄ ⦃p : (Bool) × HS⦄ ⦃Gb Gc Ge Gf Gg Gh Gi Gj Gk Gl Gm Gn Go Gp Gq Gr Gs Gt : HV⦄,L0 k n y0 y3 S = some p → HRun Tryz.prog base W0 β0 8 none [.inLoop c15,.inBlock 0,.code c31] ⟨[(Sl.hv y0),Gb,Gc,(.int .i64 y3),Ge,Gf,Gg,Gh,Gi,Gj,Gk,Gl,Gm,Gn,Go,Gp,Gq,Gr,Gs,Gt],[]⟩ S (fun v S1 => v = (.bool p.1) ∧ S1 = p.2) := by
 intro n
 induction n with
 | zero => intro _ _ _ _ _ _ _ _ _ _ _ _ _ _ _ _ _ _ _ _ _ _ h; cases h
 | succ n ih =>
  intro y0 y3 S p Gb Gc Ge Gf Gg Gh Gi Gj Gk Gl Gm Gn Go Gp Gq Gr Gs Gt h
  simp only [L0] at h
  refine hr_inLoop (qQ rfl (qQ rfl (qR rfl rfl (qS 7 rfl (oM · rfl) (qS 8 rfl (oM · rfl) (qS 9 rfl (ok_len_sl (q := Sl.a y0) (n := Sl.len y0) (z := Sl.cap y0) · rfl tu22 (.tmp rfl)) (qS 10 rfl (oB · rfl rfl rfl) (rE ?_))))))))
  try dsimp only [w0,w1,w2,w3]
  rcases ifc h with ⟨hc2,h⟩ | ⟨hc2,h⟩
  ·obtain ⟨p3,hp3,h⟩ := bindo h
   refine q_cond_t rfl (.tmp rfl) (decide_eq_true hc2) (q_skipc rfl (qQ rfl (q_block rfl (qQ rfl (qR rfl rfl (qS 13 rfl (oM · rfl) (qS 14 rfl (oM · rfl) (qS 15 rfl (oX (s := y0) · tu22 sz34 rfl rfl hp3) (qS 16 rfl (oF · fi34_2 (by decide) rfl rfl) ?_)))))))))
   try dsimp only [w0,w1,w2,w3]
   obtain ⟨p4,hp4,h⟩ := bindo h
   refine qS 17 rfl (oL · sc9 rfl rfl (ldS_out hp4)) (qS 18 rfl (ok_len_str · rfl tu9 (.tmp rfl)) (qS 19 rfl (oC · rfl rfl) (rE ?_)))
   try dsimp only [w0,w1,w2,w3]
   rcases ifc h with ⟨hc5,h⟩ | ⟨hc5,h⟩
   ·refine q_cond_t rfl (.tmp rfl) (decide_eq_true hc5) (qQ rfl (qR rfl rfl (qS 2 rfl (ok_assign · (.bool _)) (rE ?_))))
    cases h
    exact q_ret rfl at_.at_ rfl (res1 rfl rfl) ⟨rfl,rfl⟩
   ·refine q_cond_f rfl (.tmp rfl) (decide_eq_false hc5) (q_skipc rfl (hr_inBlock (qR rfl rfl (qS 11 rfl (oM · rfl) (qS 12 rfl (oC · rfl rfl) (qS 3 rfl (oA · rfl) (rE ?_)))))))
    try dsimp only [w0,w1,w2,w3]
    exact ih h
  ·refine q_cond_f rfl (.tmp rfl) (decide_eq_false hc2) (q_exit rfl rfl (qQ rfl (qR rfl rfl (qS 2 rfl (ok_assign · (.bool _)) (rE ?_)))))
   cases h
   exact q_ret rfl at_.at_ rfl (res1 rfl rfl) ⟨rfl,rfl⟩
def f (k : Nat) (x0 : Sl) (S : HS) : Option ((Bool) × HS) :=
 (if (Sl.len x0 : Int) > 40 then
 some (true,S) else
 L0 k k x0 0 S)
theorem snd {x0 : Sl} {S : HS}  {p : (Bool) × HS} (h : f k x0 S = some p) : HCall Tryz.prog base W0 β0 8 [(Sl.hv x0)] S (fun v S1 => v = (.bool p.1) ∧ S1 = p.2) := by
 unfold f at h
 refine HCall.of_run at_.at_ body ?_
 show HRun Tryz.prog base W0 β0 8 none [.code c0] ⟨[(Sl.hv x0),τ,τ,τ,τ,τ,τ,τ,τ,τ,τ,τ,τ,τ,τ,τ,τ,τ,τ,τ],[]⟩ S _
 refine qQ rfl (qR rfl rfl (qS 2 rfl (ok_assign · (.bool _)) (rE ?_)))
 try dsimp only [w0,w1,w2,w3]
 refine qQ rfl (qQ rfl (qR rfl rfl (qS 4 rfl (oM · rfl) (qS 5 rfl (ok_len_sl (q := Sl.a x0) (n := Sl.len x0) (z := Sl.cap x0) · rfl tu22 (.tmp rfl)) (qS 6 rfl (oC · rfl rfl) (rE ?_))))))
 try dsimp only [w0,w1,w2,w3]
 rcases ifc h with ⟨hc1,h⟩ | ⟨hc1,h⟩
 ·refine q_cond_t rfl (.tmp rfl) (decide_eq_true hc1) (qQ rfl (qR rfl rfl (qS 2 rfl (ok_assign · (.bool _)) (rE ?_))))
  cases h
  exact q_ret rfl at_.at_ rfl (res1 rfl rfl) ⟨rfl,rfl⟩
 ·refine q_cond_f rfl (.tmp rfl) (decide_eq_false hc1) (q_skipc rfl (qQ rfl (qQ rfl (qR rfl rfl (qS 3 rfl (ok_assign · (.int _ _)) (rE ?_))))))
  try dsimp only [w0,w1,w2,w3]
  refine q_block rfl (q_loop rfl ?_)
  try dsimp only [w0,w1,w2,w3]
  exact L0_snd  h
end
end rollcalllaw20_great
namespace rooms_Rooms_Get
theorem at_ : FnAt Tryz.prog 31 Tryz.f31 := ⟨Tryz.func31,by kernel_rfl⟩
def d0 := (Tryz.f31.body).getD .skip
def r1 := kR (kA d0)
def r4 := kR (kA (kA (kB d0)))
def r7 := kR (kA (kA (kB (kA (kB d0)))))
def r11 := kR (kA (kB (kB d0)))
def c0 : Code := .seq (.region 0 r1 false) (.seq (.seq (.region 1 r4 false) (.cond (.tmp 7) (.seq (.region 2 r7 false) .ret) .skip)) (.seq (.region 3 r11 false) .ret))
theorem body : Tryz.f31.body = some c0 := by kernel_rfl
section
variable {base : Nat} {W0 : World} {β0 : Bt}
def f (D : Dp) (H : Hd) (k : Nat) (x0 : (Option HA)) (x1 : (List UInt8)) (S : HS) : Option (((Option HA) × Bool) × HS) :=
 (if (Option.isNone x0) = true then
 some ((none,false),S) else
 (Option.bind (x0) fun p2 =>
 (Option.bind (HS.ldP S (HA.fld p2 15)) fun p3 =>
 (Option.bind (book_Book_room_Room_Get.f D H k p3 x1 S) fun p4 =>
 some ((p4.1.1,p4.1.2),p4.2)))))
theorem snd {x0 : (Option HA)} {x1 : (List UInt8)} {S : HS} (hD : DSound Tryz.prog base W0 D) (hH : HSound Tryz.prog base W0 β0 H)  {p : ((Option HA) × Bool) × HS} (h : f D H k x0 x1 S = some p) : HCall Tryz.prog base W0 β0 31 [(.ptr x0),(.str x1)] S (fun v S1 => v = (.tup [(.ptr p.1.1),(.bool p.1.2)]) ∧ S1 = p.2) := by
 unfold f at h
 refine HCall.of_run at_.at_ body ?_
 show HRun Tryz.prog base W0 β0 31 none [.code c0] ⟨[(.ptr x0),(.str x1),τ,τ,τ,τ,τ,τ,τ,τ,τ,τ,τ,τ,τ,τ],[]⟩ S _
 refine qQ rfl (qR rfl rfl (qS 4 rfl (ok_assign · (.const fun _ => .ptrNil)) (qS 5 rfl (ok_assign · (.bool _)) (rE ?_))))
 try dsimp only [w0,w1,w2,w3]
 refine qQ rfl (qQ rfl (qR rfl rfl (qS 6 rfl (oM · rfl) (qS 7 rfl (ok_nil_ptr · tu25 (.tmp rfl) (.inl ⟨rfl,rfl⟩)) (rE ?_)))))
 try dsimp only [w0,w1,w2,w3]
 rcases ifc h with ⟨hc1,h⟩ | ⟨hc1,h⟩
 ·refine q_cond_t rfl (.tmp rfl) hc1 (qQ rfl (qR rfl rfl (qS 4 rfl (ok_assign · (.const fun _ => .ptrNil)) (qS 5 rfl (ok_assign · (.bool _)) (rE ?_)))))
  cases h
  exact q_ret rfl at_.at_ rfl (res2 rfl rfl rfl) ⟨rfl,rfl⟩
 ·obtain ⟨p2,hp2,h⟩ := bindo h
  obtain ⟨p3,hp3,h⟩ := bindo h
  refine q_cond_f rfl (.tmp rfl) (bfalse hc1) (q_skipc rfl (qQ rfl (qR rfl rfl (qS 8 rfl (oM · rfl) (qS 9 rfl (oN · rfl hp2) (qS 10 rfl (oF · fi83_1 (by decide) rfl rfl) (qS 11 rfl (oL · sc75 rfl rfl (ldP_out hp3)) ?_)))))))
  try dsimp only [w0,w1,w2,w3]
  obtain ⟨p4,hp4,h⟩ := bindo h
  refine qS 12 rfl (oM · rfl) (q_call (dst := some 13) rfl (.func _) (.cons (.tmp rfl) (.cons (.tmp rfl) Evs.nil)) (HInv.static book_Book_room_Room_Get.at_ book_Book_room_Room_Get.body (book_Book_room_Room_Get.snd hD hH hp4)) ?_)
  rintro _ _ ⟨rfl,rfl⟩
  refine qS 14 rfl (ok_extract · (.tmp rfl) rfl) (qS 15 rfl (ok_extract · (.tmp rfl) rfl) ?_)
  try dsimp only [w0,w1,w2,w3]
  refine qS 4 rfl (oA · rfl) (qS 5 rfl (oA · rfl) (rE ?_))
  cases h
  exact q_ret rfl at_.at_ rfl (res2 rfl rfl rfl) ⟨rfl,rfl⟩
end
end rooms_Rooms_Get
end
end Go.Proofs.YtbmfomkfmpppiaaGreat.X
namespace Go.Proofs.YtbmfomkfmpppiaaGreat.X
open Go.Proofs.YtbmfomkfmpppiaaGreat.HL
set_option linter.unusedVariables false
set_option linter.unusedSimpArgs false
set_option maxRecDepth 20000
set_option maxHeartbeats 4000000
noncomputable section
variable {D : Dp} {H : Hd} {k : Nat} {Ga Gb Gc Gd Ge Gf Gg Gh Gi Gj Gk Gl Gm Gn Go Gp Gq Gr Gs Gt Gu Gv Gw Gx Gy Gz Ka Kb Kc Kd Ke Kf Kg Kh Ki Kj Kk Kl Km Kn Ko Kp Kq : HV}
namespace slices_Delete_string_string
theorem at_ : FnAt Tryz.prog 123 Tryz.f123 := ⟨Tryz.func123,by kernel_rfl⟩
def d0 := (Tryz.f123.body).getD .skip
def r1 := kR (kA d0)
def r3 := kR (kA (kB d0))
def r6 := kR (kA (kA (kB (kB d0))))
def r9 := kR (kA (kA (kB (kA (kB (kB d0))))))
def d12 := kB (kB (kB d0))
def r13 := kR (kA d12)
def r15 := kR (kA (kB d12))
def r17 := kR (kA (kB (kB d12)))
def r19 := kR (kA (kB (kB (kB d12))))
def c0 : Code := .seq (.region 0 r1 false) (.seq (.region 1 r3 false) (.seq (.seq (.region 2 r6 false) (.cond (.tmp 16) (.seq (.region 3 r9 false) .ret) .skip)) (.seq (.region 4 r13 false) (.seq (.region 5 r15 true) (.seq (.region 6 r17 false) (.seq (.region 7 r19 false) .ret))))))
theorem body : Tryz.f123.body = some c0 := by kernel_rfl
section
variable {base : Nat} {W0 : World} {β0 : Bt}
def f (x0 : Sl) (x1 : Int) (x2 : Int) (S : HS) : Option ((Sl) × HS) :=
 (Option.bind (HS.cut3 S x0 x1 x2 (Sl.len x0 : Int) 1) fun p1 =>
 (if x1 = x2 then
 some (x0,S) else
 (Option.bind (HS.cut S x0 0 x1 1) fun p3 =>
 (Option.bind (HS.cut S x0 x2 (Sl.len x0 : Int) 1) fun p4 =>
 (Option.bind (HS.rows S p4 1) fun p5 =>
 (Option.bind (HS.app S p3 p5 1) fun p6 =>
 (Option.bind (HS.cut (p6.2) (p6.1) (Sl.len (p6.1) : Int) (Sl.len x0 : Int) 1) fun p7 =>
 (Option.bind (HS.over (p6.2) p7 (List.replicate (Sl.len p7) [(.str [])]) 1) fun p8 =>
 some ((p6.1),p8)))))))))
theorem snd {x0 : Sl} {x1 : Int} {x2 : Int} {S : HS}  {p : (Sl) × HS} (h : f x0 x1 x2 S = some p) : HCall Tryz.prog base W0 β0 123 [(Sl.hv x0),(.int .i64 x1),(.int .i64 x2)] S (fun v S1 => v = (Sl.hv p.1) ∧ S1 = p.2) := by
 unfold f at h
 refine HCall.of_run at_.at_ body ?_
 show HRun Tryz.prog base W0 β0 123 none [.code c0] ⟨[(Sl.hv x0),(.int .i64 x1),(.int .i64 x2),τ,τ,τ,τ,τ,τ,τ,τ,τ,τ,τ,τ,τ,τ,τ,τ,τ,τ,τ,τ,τ,τ,τ,τ,τ,τ,τ,τ,τ,τ],[]⟩ S _
 refine qQ rfl (qR rfl rfl (qS 6 rfl (ok_assign · (.const fun _ => .slNil none)) (rE ?_)))
 try dsimp only [w0,w1,w2,w3]
 refine qQ rfl (qR rfl rfl (qS 8 rfl (oM · rfl) (qS 9 rfl (oM · rfl) (qS 10 rfl (oM · rfl) (qS 11 rfl (oM · rfl) ?_)))))
 try dsimp only [w0,w1,w2,w3]
 obtain ⟨p1,hp1,h⟩ := bindo h
 refine qS 12 rfl (ok_len_sl (q := Sl.a x0) (n := Sl.len x0) (z := Sl.cap x0) · rfl tu57 (.tmp rfl)) (qS 13 rfl (ok_slice3 (kl := .i64) (kh := .i64) (s := x0) (l := x1) (h := x2) · tu57 si9 (.tmp rfl) (.inr ⟨_,rfl,(.tmp rfl)⟩) (.inr ⟨_,rfl,(.tmp rfl)⟩) (.tmp rfl) hp1) (rE ?_))
 try dsimp only [w0,w1,w2,w3]
 refine qQ rfl (qQ rfl (qR rfl rfl (qS 14 rfl (oM · rfl) (qS 15 rfl (oM · rfl) (qS 16 rfl (oB · rfl rfl rfl) (rE ?_))))))
 try dsimp only [w0,w1,w2,w3]
 rcases ifc h with ⟨hc2,h⟩ | ⟨hc2,h⟩
 ·refine q_cond_t rfl (.tmp rfl) (decide_eq_true hc2) (qQ rfl (qR rfl rfl (qS 17 rfl (oM · rfl) (qS 6 rfl (oA · rfl) (rE ?_)))))
  cases h
  exact q_ret rfl at_.at_ rfl (res1 rfl rfl) ⟨rfl,rfl⟩
 ·refine q_cond_f rfl (.tmp rfl) (decide_eq_false hc2) (q_skipc rfl (qQ rfl (qR rfl rfl (qS 18 rfl (oM · rfl) (qS 19 rfl (ok_len_sl (q := Sl.a x0) (n := Sl.len x0) (z := Sl.cap x0) · rfl tu57 (.tmp rfl)) (qS 7 rfl (oA · rfl) (rE ?_)))))))
  try dsimp only [w0,w1,w2,w3]
  refine qQ rfl ?_
  refine x_start (cls := [0,0,1,0,0,1,2,0]) (rk := [0,1,2,3,4,5,6,7]) rfl (by kernel_rfl) ?_
  refine yf 20 [0] rfl (oM · rfl) ?_
  refine yf 21 [1] rfl (oM · rfl) ?_
  obtain ⟨p3,hp3,h⟩ := bindo h
  refine yr 22 [20,21] rfl (ok_slice (kl := .i64) (kh := .i64) (s := x0) (l := 0) (h := x1) · tu57 si9 (.tmp rfl) (.inl ⟨rfl,rfl⟩) (.inr ⟨_,rfl,(.tmp rfl)⟩) hp3) ?_
  refine yf 23 [0] rfl (oM · rfl) ?_
  try dsimp only [w0,w1,w2,w3]
  refine yf 24 [2] rfl (oM · rfl) ?_
  obtain ⟨p4,hp4,h⟩ := bindo h
  refine yr 25 [23,24] rfl (ok_slice (kl := .i64) (kh := .i64) (s := x0) (l := x2) (h := (Sl.len x0 : Int)) · tu57 si9 (.tmp rfl) (.inr ⟨_,rfl,(.tmp rfl)⟩) (.inl ⟨rfl,rfl⟩) hp4) ?_
  obtain ⟨p5,hp5,h⟩ := bindo h
  obtain ⟨p6,hp6,h⟩ := bindo h
  refine ye 26 [22,25] rfl (ok_append (s := p3) (s1 := p4) el57 · rfl rfl ⟨_,tu57⟩ (.tmp rfl) (.tmp rfl) hp5 hp6) ?_
  refine yf 0 [26] rfl (oA · rfl) ?_
  refine x_rest rfl ?_
  refine rE ?_
  try dsimp only [w0,w1,w2,w3]
  refine qQ rfl (qR rfl rfl (qS 27 rfl (oM · rfl) (qS 28 rfl (oM · rfl) (qS 29 rfl (ok_len_sl (q := Sl.a (p6.1)) (n := Sl.len (p6.1)) (z := Sl.cap (p6.1)) · rfl tu57 (.tmp rfl)) (qS 30 rfl (oM · rfl) ?_)))))
  try dsimp only [w0,w1,w2,w3]
  obtain ⟨p7,hp7,h⟩ := bindo h
  obtain ⟨p8,hp8,h⟩ := bindo h
  refine qS 31 rfl (ok_slice (kl := .i64) (kh := .i64) (s := (p6.1)) (l := (Sl.len (p6.1) : Int)) (h := (Sl.len x0 : Int)) · tu57 si9 (.tmp rfl) (.inr ⟨_,rfl,(.tmp rfl)⟩) (.inr ⟨_,rfl,(.tmp rfl)⟩) hp7) (qN rfl (ok_clear (s := p7) el57 · rfl (.tmp rfl) hp8) (rE ?_))
  try dsimp only [w0,w1,w2,w3]
  refine qQ rfl (qR rfl rfl (qS 32 rfl (oM · rfl) (qS 6 rfl (oA · rfl) (rE ?_))))
  cases h
  exact q_ret rfl at_.at_ rfl (res1 rfl rfl) ⟨rfl,rfl⟩
end
end slices_Delete_string_string
namespace slices_Delete_string_string_w
theorem at_ : FnAt Tryz.prog 123 Tryz.f123 := slices_Delete_string_string.at_
theorem body : Tryz.f123.body = some slices_Delete_string_string.c0 := slices_Delete_string_string.body
def f (x0 : Sl) (x1 : Int) (x2 : Int) (S : HS) : Option ((Sl) × HS) := HS.del S x0 x1 x2 1
theorem snd {base : Nat} {W0 : World} {β0 : Bt} {x0 : Sl} {x1 x2 : Int} {S : HS} {p : (Sl) × HS} (h : f x0 x1 x2 S = some p) : HCall Tryz.prog base W0 β0 123 [(Sl.hv x0),(.int .i64 x1),(.int .i64 x2)] S (fun v S1 => v = (Sl.hv p.1) ∧ S1 = p.2) :=
 del_snd (zr := [(.str [])]) (fun _ _ _ h => slices_Delete_string_string.snd h) h
end slices_Delete_string_string_w
namespace set_Set_string_Remove
theorem at_ : FnAt Tryz.prog 100 Tryz.f100 := ⟨Tryz.func100,by kernel_rfl⟩
def d0 := (Tryz.f100.body).getD .skip
def r1 := kR (kA d0)
def r3 := kR (kA (kB d0))
def r6 := kR (kA (kA (kB (kB d0))))
def r9 := kR (kA (kA (kB (kA (kB (kB d0))))))
def d12 := kB (kB (kB d0))
def r14 := kR (kA (kA d12))
def d16 := kA (kB (kA d12))
def r18 := kR (kA (kA d16))
def d23 := kB (kB (kA d16))
def r26 := kR (kA (kA (kA d23)))
def d27 := kB (kA (kA d23))
def r28 := kR (kA d27)
def r30 := kR (kA (kB d27))
def r33 := kR (kA (kA (kB (kB d27))))
def r34 := kR (kB (kA (kB (kB d27))))
def r36 := kR (kB d23)
def r38 := kR (kA (kB d12))
def c37 : Code := .seq (.region 12 r38 false) .ret
def c36 : Code := .region 11 r36 false
def c17 : Code := .seq (.region 5 r18 false) (.seq (.cond (.tmp 15) .skip (.exit 0)) (.seq (.block 1 (.seq (.region 6 r26 false) (.seq (.region 7 r28 false) (.seq (.region 8 r30 false) (.cond (.tmp 27) (.seq (.region 9 r33 false) (.region 10 r34 false)) .skip))))) c36))
def c0 : Code := .seq (.region 0 r1 false) (.seq (.region 1 r3 false) (.seq (.seq (.region 2 r6 false) (.cond (.tmp 11) (.seq (.region 3 r9 false) .ret) .skip)) (.seq (.seq (.region 4 r14 false) (.block 0 (.loop c17))) c37)))
theorem body : Tryz.f100.body = some c0 := by kernel_rfl
section
variable {base : Nat} {W0 : World} {β0 : Bt}
def J1 (k : Nat) (rec0 : (Option HA) → Int → Sl → Int → Int → HS → Option ((Int) × HS)) (y0 : (Option HA)) (y5 : Int) (y12 : Sl) (y13 : Int) (y14 : Int) (S : HS) : Option ((Int) × HS) :=
 rec0 y0 y5 y12 y13 (w64 (y14 + 1)) S
theorem J1_snd {rec0 : (Option HA) → Int → Sl → Int → Int → HS → Option ((Int) × HS)} (hrec0 : ∀ ⦃y0 : (Option HA)⦄ ⦃y5 : Int⦄ ⦃y12 : Sl⦄ ⦃y13 : Int⦄ ⦃y14 : Int⦄ ⦃S : HS⦄ ⦃p : (Int) × HS⦄ ⦃Gb Gc Gd Ge Gg Gh Gi Gj Gk Gl Gp Gq Gr Gs Gt Gu Gv Gw Gx Gy Gz Ka Kb Kc Kd Ke Kf Kg Kh Ki Kj Kk Kl Km Kn Ko Kp Kq : HV⦄,rec0 y0 y5 y12 y13 y14 S = some p → HRun Tryz.prog base W0 β0 100 none [.inLoop c17,.inBlock 0,.code c37] ⟨[(.ptr y0),Gb,Gc,Gd,Ge,(.int .i64 y5),Gg,Gh,Gi,Gj,Gk,Gl,(Sl.hv y12),(.int .i64 y13),(.int .i64 y14),Gp,Gq,Gr,Gs,Gt,Gu,Gv,Gw,Gx,Gy,Gz,Ka,Kb,Kc,Kd,Ke,Kf,Kg,Kh,Ki,Kj,Kk,Kl,Km,Kn,Ko,Kp,Kq],[]⟩ S (fun v S1 => v = (.int .i64 p.1) ∧ S1 = p.2)) {y0 : (Option HA)} {y5 : Int} {y12 : Sl} {y13 : Int} {y14 : Int} {S : HS} {p : (Int) × HS} (h : J1 k rec0 y0 y5 y12 y13 y14 S = some p) : HRun Tryz.prog base W0 β0 100 none [.code c36,.inLoop c17,.inBlock 0,.code c37] ⟨[(.ptr y0),Gb,Gc,Gd,Ge,(.int .i64 y5),Gg,Gh,Gi,Gj,Gk,Gl,(Sl.hv y12),(.int .i64 y13),(.int .i64 y14),Gp,Gq,Gr,Gs,Gt,Gu,Gv,Gw,Gx,Gy,Gz,Ka,Kb,Kc,Kd,Ke,Kf,Kg,Kh,Ki,Kj,Kk,Kl,Km,Kn,Ko,Kp,Kq],[]⟩ S (fun v S1 => v = (.int .i64 p.1) ∧ S1 = p.2) := by
 unfold J1 at h
 refine qR rfl rfl (qS 41 rfl (oC · rfl rfl) (qS 14 rfl (oM · rfl) (rE ?_)))
 try dsimp only [w0,w1,w2,w3]
 exact hrec0 h
def L0 (k : Nat) : Nat → (Option HA) → Int → Sl → Int → Int → HS → Option ((Int) × HS)
 | 0,_,_,_,_,_,_ => none
 | n + 1,y0,y5,y12,y13,y14,S =>
  (if y14 < y13 then
  (Option.bind (HS.idx S y12 y14 1) fun p3 =>
  (Option.bind (HS.ldS S p3) fun p4 =>
  (Option.bind (y0) fun p5 =>
  (Option.bind (HS.ldSl S (HA.fld p5 0)) fun p6 =>
  (Option.bind (slices_BinarySearch_string_string.f k p6 p4 S) fun p7 =>
  (if p7.1.2 = true then
  (Option.bind (y0) fun p9 =>
  (Option.bind (HS.ldSl p7.2 (HA.fld p9 0)) fun p10 =>
  (Option.bind (slices_Delete_string_string_w.f p10 p7.1.1 (w64 (p7.1.1 + 1)) p7.2) fun p11 =>
  (Option.bind (y0) fun p12 =>
  (Option.bind (HS.sets p11.2 (HA.fld p12 0) [(Sl.hv p11.1)]) fun p13 =>
  J1 k (L0 k n) y0 (w64 (y5 + 1)) y12 y13 y14 p13))))) else
  J1 k (L0 k n) y0 y5 y12 y13 y14 p7.2)))))) else
  some (y5,S))
theorem L0_snd  : ∀ {n : Nat} ⦃y0 : (Option HA)⦄ ⦃y5 : Int⦄ ⦃y12 : Sl⦄ ⦃y13 : Int⦄ ⦃y14 : Int⦄ ⦃S : HS⦄ ⦃p : (Int) × HS⦄ ⦃Gb Gc Gd Ge Gg Gh Gi Gj Gk Gl Gp Gq Gr Gs Gt Gu Gv Gw Gx Gy Gz Ka Kb Kc Kd Ke Kf Kg Kh Ki Kj Kk Kl Km Kn Ko Kp Kq : HV⦄,L0 k n y0 y5 y12 y13 y14 S = some p → HRun Tryz.prog base W0 β0 100 none [.inLoop c17,.inBlock 0,.code c37] ⟨[(.ptr y0),Gb,Gc,Gd,Ge,(.int .i64 y5),Gg,Gh,Gi,Gj,Gk,Gl,(Sl.hv y12),(.int .i64 y13),(.int .i64 y14),Gp,Gq,Gr,Gs,Gt,Gu,Gv,Gw,Gx,Gy,Gz,Ka,Kb,Kc,Kd,Ke,Kf,Kg,Kh,Ki,Kj,Kk,Kl,Km,Kn,Ko,Kp,Kq],[]⟩ S (fun v S1 => v = (.int .i64 p.1) ∧ S1 = p.2) := by
 intro n
 induction n with
 | zero => intro _ _ _ _ _ _ _ _ _ _ _ _ _ _ _ _ _ _ _ _ _ _ _ _ _ _ _ _ _ _ _ _ _ _ _ _ _ _ _ _ _ _ _ _ _ h; cases h
 | succ n ih =>
  intro y0 y5 y12 y13 y14 S p Gb Gc Gd Ge Gg Gh Gi Gj Gk Gl Gp Gq Gr Gs Gt Gu Gv Gw Gx Gy Gz Ka Kb Kc Kd Ke Kf Kg Kh Ki Kj Kk Kl Km Kn Ko Kp Kq h
  simp only [L0] at h
  refine hr_inLoop (qQ rfl (qR rfl rfl (qS 15 rfl (oB · rfl rfl rfl) (rE ?_))))
  try dsimp only [w0,w1,w2,w3]
  refine qQ rfl ?_
  rcases ifc h with ⟨hc2,h⟩ | ⟨hc2,h⟩
  ·obtain ⟨p3,hp3,h⟩ := bindo h
   obtain ⟨p4,hp4,h⟩ := bindo h
   refine q_cond_t rfl (.tmp rfl) (decide_eq_true hc2) (q_skipc rfl (qQ rfl (q_block rfl (qQ rfl (qR rfl rfl (qS 16 rfl (oX (s := y12) · tu57 sz9 rfl rfl hp3) (qS 17 rfl (oL · sc9 rfl rfl (ldS_out hp4)) (qS 7 rfl (oA · rfl) (rE ?_)))))))))
   try dsimp only [w0,w1,w2,w3]
   obtain ⟨p5,hp5,h⟩ := bindo h
   obtain ⟨p6,hp6,h⟩ := bindo h
   refine qQ rfl (qR rfl rfl (qS 19 rfl (oM · rfl) (qS 20 rfl (oN · rfl hp5) (qS 21 rfl (oF · fi159_0 (by decide) rfl rfl) (qS 22 rfl (oL · sc57 rfl rfl (ldSl_out hp6)) ?_)))))
   try dsimp only [w0,w1,w2,w3]
   obtain ⟨p7,hp7,h⟩ := bindo h
   refine qS 23 rfl (oM · rfl) (q_call (dst := some 24) rfl (.func _) (.cons (.tmp rfl) (.cons (.tmp rfl) Evs.nil)) (HInv.static slices_BinarySearch_string_string.at_ slices_BinarySearch_string_string.body (slices_BinarySearch_string_string.snd  hp7)) ?_)
   rintro _ _ ⟨rfl,rfl⟩
   refine qS 18 rfl (oM · rfl) (qS 25 rfl (ok_extract · (.tmp rfl) rfl) ?_)
   try dsimp only [w0,w1,w2,w3]
   refine qS 26 rfl (ok_extract · (.tmp rfl) rfl) (qS 8 rfl (oA · rfl) (qS 9 rfl (oA · rfl) (rE ?_)))
   try dsimp only [w0,w1,w2,w3]
   refine qQ rfl (qR rfl rfl (qS 27 rfl (oM · rfl) (rE ?_)))
   try dsimp only [w0,w1,w2,w3]
   rcases ifc h with ⟨hc8,h⟩ | ⟨hc8,h⟩
   ·obtain ⟨p9,hp9,h⟩ := bindo h
    refine q_cond_t rfl (.tmp rfl) hc8 (qQ rfl (qR rfl rfl (qS 28 rfl (oM · rfl) (qS 29 rfl (oM · rfl) (qS 30 rfl (oN · rfl hp9) (qS 31 rfl (oF · fi159_0 (by decide) rfl rfl) ?_))))))
    try dsimp only [w0,w1,w2,w3]
    obtain ⟨p10,hp10,h⟩ := bindo h
    refine qS 32 rfl (oL · sc57 rfl rfl (ldSl_out hp10)) (qS 33 rfl (oM · rfl) (qS 34 rfl (oM · rfl) (qS 35 rfl (oC · rfl rfl) ?_)))
    try dsimp only [w0,w1,w2,w3]
    obtain ⟨p11,hp11,h⟩ := bindo h
    refine q_call (dst := some 36) rfl (.func _) (.cons (.tmp rfl) (.cons (.tmp rfl) (.cons (.tmp rfl) Evs.nil))) (HInv.static slices_Delete_string_string_w.at_ slices_Delete_string_string_w.body (slices_Delete_string_string_w.snd  hp11)) ?_
    rintro _ _ ⟨rfl,rfl⟩
    obtain ⟨p12,hp12,h⟩ := bindo h
    obtain ⟨p13,hp13,h⟩ := bindo h
    refine qS 37 rfl (oN · rfl hp12) (qS 38 rfl (oF · fi159_0 (by decide) rfl rfl) (qN rfl (ok_store_s (v := (Sl.hv p11.1)) · sz57 (.tmp rfl) rfl (.tmp rfl) rfl hp13) (rE ?_)))
    try dsimp only [w0,w1,w2,w3]
    refine qR rfl rfl (qS 39 rfl (oM · rfl) (qS 40 rfl (oC · rfl rfl) (qS 5 rfl (oA · rfl) (rE ?_))))
    try dsimp only [w0,w1,w2,w3]
    refine hr_inBlock ?_
    try dsimp only [w0,w1,w2,w3]
    exact J1_snd ih h
   ·refine q_cond_f rfl (.tmp rfl) (bfalse hc8) (q_skipc rfl (hr_inBlock ?_))
    try dsimp only [w0,w1,w2,w3]
    exact J1_snd ih h
  ·refine q_cond_f rfl (.tmp rfl) (decide_eq_false hc2) (q_exit rfl rfl (qQ rfl (qR rfl rfl (qS 42 rfl (oM · rfl) (qS 4 rfl (oA · rfl) (rE ?_))))))
   cases h
   exact q_ret rfl at_.at_ rfl (res1 rfl rfl) ⟨rfl,rfl⟩
def f (k : Nat) (x0 : (Option HA)) (x1 : Sl) (S : HS) : Option ((Int) × HS) :=
 (if (Option.isNone x0) = true then
 some (0,S) else
 L0 k k x0 0 x1 (Sl.len x1 : Int) 0 S)
theorem snd {x0 : (Option HA)} {x1 : Sl} {S : HS}  {p : (Int) × HS} (h : f k x0 x1 S = some p) : HCall Tryz.prog base W0 β0 100 [(.ptr x0),(Sl.hv x1)] S (fun v S1 => v = (.int .i64 p.1) ∧ S1 = p.2) := by
 unfold f at h
 refine HCall.of_run at_.at_ body ?_
 show HRun Tryz.prog base W0 β0 100 none [.code c0] ⟨[(.ptr x0),(Sl.hv x1),τ,τ,τ,τ,τ,τ,τ,τ,τ,τ,τ,τ,τ,τ,τ,τ,τ,τ,τ,τ,τ,τ,τ,τ,τ,τ,τ,τ,τ,τ,τ,τ,τ,τ,τ,τ,τ,τ,τ,τ,τ],[]⟩ S _
 refine qQ rfl (qR rfl rfl (qS 4 rfl (ok_assign · (.int _ _)) (rE ?_)))
 try dsimp only [w0,w1,w2,w3]
 refine qQ rfl (qR rfl rfl (qS 5 rfl (ok_assign · (.int _ _)) (rE ?_)))
 try dsimp only [w0,w1,w2,w3]
 refine qQ rfl (qQ rfl (qR rfl rfl (qS 10 rfl (oM · rfl) (qS 11 rfl (ok_nil_ptr · tu134 (.tmp rfl) (.inl ⟨rfl,rfl⟩)) (rE ?_)))))
 try dsimp only [w0,w1,w2,w3]
 rcases ifc h with ⟨hc1,h⟩ | ⟨hc1,h⟩
 ·refine q_cond_t rfl (.tmp rfl) hc1 (qQ rfl (qR rfl rfl (qS 4 rfl (ok_assign · (.int _ _)) (rE ?_))))
  cases h
  exact q_ret rfl at_.at_ rfl (res1 rfl rfl) ⟨rfl,rfl⟩
 ·refine q_cond_f rfl (.tmp rfl) (bfalse hc1) (q_skipc rfl (qQ rfl (qQ rfl (qR rfl rfl (qS 12 rfl (oM · rfl) (qS 13 rfl (ok_len_sl (q := Sl.a x1) (n := Sl.len x1) (z := Sl.cap x1) · rfl tu57 (.tmp rfl)) (qS 14 rfl (ok_move · (.int _ _)) (rE ?_))))))))
  try dsimp only [w0,w1,w2,w3]
  refine q_block rfl (q_loop rfl ?_)
  try dsimp only [w0,w1,w2,w3]
  exact L0_snd  h
end
end set_Set_string_Remove
namespace pair_take_int_string
theorem at_ : FnAt Tryz.prog 68 Tryz.f68 := ⟨Tryz.func68,by kernel_rfl⟩
def d0 := (Tryz.f68.body).getD .skip
def r1 := kR (kA d0)
def r3 := kR (kA (kB d0))
def r5 := kR (kA (kB (kB d0)))
def c0 : Code := .seq (.region 0 r1 false) (.seq (.region 1 r3 false) (.cond (.tmp 16) (.region 2 r5 false) .skip))
theorem body : Tryz.f68.body = some c0 := by kernel_rfl
section
variable {base : Nat} {W0 : World} {β0 : Bt}
def J0 (k : Nat) (S : HS) : Option ((Unit) × HS) :=
 some ((),S)
theorem J0_snd  {S : HS} {p : (Unit) × HS} (h : J0 k S = some p) : HRun Tryz.prog base W0 β0 68 none [] ⟨[Ga,Gb,Gc,Gd,Ge,Gf,Gg,Gh,Gi,Gj,Gk,Gl,Gm,Gn,Go,Gp,Gq,Gr,Gs],[]⟩ S (fun v S1 => v = (.tup []) ∧ S1 = p.2) := by
 unfold J0 at h
 cases h
 exact q_end at_.at_ rfl (res0 rfl) ⟨rfl,rfl⟩
def f (k : Nat) (x0 : (Option Nat)) (x1 : Int) (x2 : (List UInt8)) (S : HS) : Option ((Unit) × HS) :=
 (Option.bind (HS.look S x0 (.int .i64 x1)) fun p1 =>
 (Option.bind (dP (Option.getD p1 (.ptr none))) fun p2 =>
 (letv (HS.lit S [[(.str x2)]] 1) fun p3 =>
 (Option.bind (set_Set_string_Remove.f k p2 (p3.1) (p3.2)) fun p4 =>
 (Option.bind (HS.look p4.2 x0 (.int .i64 x1)) fun p5 =>
 (Option.bind (dP (Option.getD p5 (.ptr none))) fun p6 =>
 (Option.bind (set_Set_string_Len.f p6 p4.2) fun p7 =>
 (if p7.1 = 0 then
 (Option.bind (HS.mdel p7.2 x0 (.int .i64 x1)) fun p9 =>
 J0 k p9) else
 J0 k p7.2))))))))
theorem snd {x0 : (Option Nat)} {x1 : Int} {x2 : (List UInt8)} {S : HS}  {p : (Unit) × HS} (h : f k x0 x1 x2 S = some p) : HCall Tryz.prog base W0 β0 68 [(.map x0),(.int .i64 x1),(.str x2)] S (fun v S1 => v = (.tup []) ∧ S1 = p.2) := by
 unfold f at h
 refine HCall.of_run at_.at_ body ?_
 show HRun Tryz.prog base W0 β0 68 none [.code c0] ⟨[(.map x0),(.int .i64 x1),(.str x2),τ,τ,τ,τ,τ,τ,τ,τ,τ,τ,τ,τ,τ,τ,τ,τ],[]⟩ S _
 obtain ⟨p1,hp1,h⟩ := bindo h
 obtain ⟨p2,hp2,h⟩ := bindo h
 refine qQ rfl (qR rfl rfl (qS 6 rfl (oM · rfl) (qS 7 rfl (oM · rfl) (qS 8 rfl (ok_lookup · tu121 zi134 (fun β => .ptrNil) (keyInt tu3) (.tmp rfl) (.tmp rfl) hp1 (dP_out hp2)) (qS 9 rfl (oM · rfl) ?_)))))
 try dsimp only [w0,w1,w2,w3]
 obtain ⟨p3,hp3,h⟩ := leto h
 obtain ⟨p4,hp4,h⟩ := bindo h
 refine qS 10 rfl (ok_buildSlice_s (xs := [(.tmp 9)]) el57 · rfl rfl (by decide) (.cons (.tmp rfl) Evs.nil) rfl rfl hp3) (q_call (dst := some 11) rfl (.func _) (.cons (.tmp rfl) (.cons (.tmp rfl) Evs.nil)) (HInv.static set_Set_string_Remove.at_ set_Set_string_Remove.body (set_Set_string_Remove.snd  hp4)) ?_)
 rintro _ _ ⟨rfl,rfl⟩
 refine rE ?_
 try dsimp only [w0,w1,w2,w3]
 obtain ⟨p5,hp5,h⟩ := bindo h
 obtain ⟨p6,hp6,h⟩ := bindo h
 obtain ⟨p7,hp7,h⟩ := bindo h
 refine qQ rfl (qR rfl rfl (qS 12 rfl (oM · rfl) (qS 13 rfl (oM · rfl) (qS 14 rfl (ok_lookup · tu121 zi134 (fun β => .ptrNil) (keyInt tu3) (.tmp rfl) (.tmp rfl) hp5 (dP_out hp6)) (q_call (dst := some 15) rfl (.func _) (.cons (.tmp rfl) Evs.nil) (HInv.static set_Set_string_Len.at_ set_Set_string_Len.body (set_Set_string_Len.snd  hp7)) ?_)))))
 rintro _ _ ⟨rfl,rfl⟩
 try dsimp only [w0,w1,w2,w3]
 refine qS 16 rfl (oC · rfl rfl) (rE ?_)
 try dsimp only [w0,w1,w2,w3]
 rcases ifc h with ⟨hc8,h⟩ | ⟨hc8,h⟩
 ·obtain ⟨p9,hp9,h⟩ := bindo h
  refine q_cond_t rfl (.tmp rfl) (decide_eq_true hc8) (qR rfl rfl (qS 17 rfl (oM · rfl) (qS 18 rfl (oM · rfl) (qN rfl (ok_delete · rfl tu121 (keyInt tu3) (.tmp rfl) (.tmp rfl) hp9) (rE ?_)))))
  try dsimp only [w0,w1,w2,w3]
  exact J0_snd  h
 ·refine q_cond_f rfl (.tmp rfl) (decide_eq_false hc8) (q_skipc rfl ?_)
  try dsimp only [w0,w1,w2,w3]
  exact J0_snd  h
end
end pair_take_int_string
namespace set_Set_int_Len
theorem at_ : FnAt Tryz.prog 101 Tryz.f101 := ⟨Tryz.func101,by kernel_rfl⟩
def d0 := (Tryz.f101.body).getD .skip
def r1 := kR (kA d0)
def r4 := kR (kA (kA (kB d0)))
def r7 := kR (kA (kA (kB (kA (kB d0)))))
def r11 := kR (kA (kB (kB d0)))
def c0 : Code := .seq (.region 0 r1 false) (.seq (.seq (.region 1 r4 false) (.cond (.tmp 4) (.seq (.region 2 r7 false) .ret) .skip)) (.seq (.region 3 r11 false) .ret))
theorem body : Tryz.f101.body = some c0 := by kernel_rfl
section
variable {base : Nat} {W0 : World} {β0 : Bt}
def f (x0 : (Option HA)) (S : HS) : Option ((Int) × HS) :=
 (if (Option.isNone x0) = true then
 some (0,S) else
 (Option.bind (x0) fun p2 =>
 (Option.bind (HS.ldSl S (HA.fld p2 0)) fun p3 =>
 some ((Sl.len p3 : Int),S))))
theorem snd {x0 : (Option HA)} {S : HS}  {p : (Int) × HS} (h : f x0 S = some p) : HCall Tryz.prog base W0 β0 101 [(.ptr x0)] S (fun v S1 => v = (.int .i64 p.1) ∧ S1 = p.2) := by
 unfold f at h
 refine HCall.of_run at_.at_ body ?_
 show HRun Tryz.prog base W0 β0 101 none [.code c0] ⟨[(.ptr x0),τ,τ,τ,τ,τ,τ,τ,τ,τ],[]⟩ S _
 refine qQ rfl (qR rfl rfl (qS 2 rfl (ok_assign · (.int _ _)) (rE ?_)))
 try dsimp only [w0,w1,w2,w3]
 refine qQ rfl (qQ rfl (qR rfl rfl (qS 3 rfl (oM · rfl) (qS 4 rfl (ok_nil_ptr · tu96 (.tmp rfl) (.inl ⟨rfl,rfl⟩)) (rE ?_)))))
 try dsimp only [w0,w1,w2,w3]
 rcases ifc h with ⟨hc1,h⟩ | ⟨hc1,h⟩
 ·refine q_cond_t rfl (.tmp rfl) hc1 (qQ rfl (qR rfl rfl (qS 2 rfl (ok_assign · (.int _ _)) (rE ?_))))
  cases h
  exact q_ret rfl at_.at_ rfl (res1 rfl rfl) ⟨rfl,rfl⟩
 ·obtain ⟨p2,hp2,h⟩ := bindo h
  obtain ⟨p3,hp3,h⟩ := bindo h
  refine q_cond_f rfl (.tmp rfl) (bfalse hc1) (q_skipc rfl (qQ rfl (qR rfl rfl (qS 5 rfl (oM · rfl) (qS 6 rfl (oN · rfl hp2) (qS 7 rfl (oF · fi138_0 (by decide) rfl rfl) (qS 8 rfl (oL · sc42 rfl rfl (ldSl_out hp3)) ?_)))))))
  try dsimp only [w0,w1,w2,w3]
  refine qS 9 rfl (ok_len_sl (q := Sl.a p3) (n := Sl.len p3) (z := Sl.cap p3) · rfl tu42 (.tmp rfl)) (qS 2 rfl (oA · rfl) (rE ?_))
  cases h
  exact q_ret rfl at_.at_ rfl (res1 rfl rfl) ⟨rfl,rfl⟩
end
end set_Set_int_Len
namespace pair_take_string_int
theorem at_ : FnAt Tryz.prog 69 Tryz.f69 := ⟨Tryz.func69,by kernel_rfl⟩
def d0 := (Tryz.f69.body).getD .skip
def r1 := kR (kA d0)
def r3 := kR (kA (kB d0))
def r5 := kR (kA (kB (kB d0)))
def c0 : Code := .seq (.region 0 r1 false) (.seq (.region 1 r3 false) (.cond (.tmp 16) (.region 2 r5 false) .skip))
theorem body : Tryz.f69.body = some c0 := by kernel_rfl
section
variable {base : Nat} {W0 : World} {β0 : Bt}
def J0 (k : Nat) (S : HS) : Option ((Unit) × HS) :=
 some ((),S)
theorem J0_snd  {S : HS} {p : (Unit) × HS} (h : J0 k S = some p) : HRun Tryz.prog base W0 β0 69 none [] ⟨[Ga,Gb,Gc,Gd,Ge,Gf,Gg,Gh,Gi,Gj,Gk,Gl,Gm,Gn,Go,Gp,Gq,Gr,Gs],[]⟩ S (fun v S1 => v = (.tup []) ∧ S1 = p.2) := by
 unfold J0 at h
 cases h
 exact q_end at_.at_ rfl (res0 rfl) ⟨rfl,rfl⟩
def f (k : Nat) (x0 : (Option Nat)) (x1 : (List UInt8)) (x2 : Int) (S : HS) : Option ((Unit) × HS) :=
 (Option.bind (HS.look S x0 (.str x1)) fun p1 =>
 (Option.bind (dP (Option.getD p1 (.ptr none))) fun p2 =>
 (letv (HS.lit S [[(.int .i64 x2)]] 1) fun p3 =>
 (Option.bind (set_Set_int_Remove.f k p2 (p3.1) (p3.2)) fun p4 =>
 (Option.bind (HS.look p4.2 x0 (.str x1)) fun p5 =>
 (Option.bind (dP (Option.getD p5 (.ptr none))) fun p6 =>
 (Option.bind (set_Set_int_Len.f p6 p4.2) fun p7 =>
 (if p7.1 = 0 then
 (Option.bind (HS.mdel p7.2 x0 (.str x1)) fun p9 =>
 J0 k p9) else
 J0 k p7.2))))))))
theorem snd {x0 : (Option Nat)} {x1 : (List UInt8)} {x2 : Int} {S : HS}  {p : (Unit) × HS} (h : f k x0 x1 x2 S = some p) : HCall Tryz.prog base W0 β0 69 [(.map x0),(.str x1),(.int .i64 x2)] S (fun v S1 => v = (.tup []) ∧ S1 = p.2) := by
 unfold f at h
 refine HCall.of_run at_.at_ body ?_
 show HRun Tryz.prog base W0 β0 69 none [.code c0] ⟨[(.map x0),(.str x1),(.int .i64 x2),τ,τ,τ,τ,τ,τ,τ,τ,τ,τ,τ,τ,τ,τ,τ,τ],[]⟩ S _
 obtain ⟨p1,hp1,h⟩ := bindo h
 obtain ⟨p2,hp2,h⟩ := bindo h
 refine qQ rfl (qR rfl rfl (qS 6 rfl (oM · rfl) (qS 7 rfl (oM · rfl) (qS 8 rfl (ok_lookup · tu122 zi96 (fun β => .ptrNil) (keyStr tu9) (.tmp rfl) (.tmp rfl) hp1 (dP_out hp2)) (qS 9 rfl (oM · rfl) ?_)))))
 try dsimp only [w0,w1,w2,w3]
 obtain ⟨p3,hp3,h⟩ := leto h
 obtain ⟨p4,hp4,h⟩ := bindo h
 refine qS 10 rfl (ok_buildSlice_s (xs := [(.tmp 9)]) el42 · rfl rfl (by decide) (.cons (.tmp rfl) Evs.nil) rfl rfl hp3) (q_call (dst := some 11) rfl (.func _) (.cons (.tmp rfl) (.cons (.tmp rfl) Evs.nil)) (HInv.static set_Set_int_Remove.at_ set_Set_int_Remove.body (set_Set_int_Remove.snd  hp4)) ?_)
 rintro _ _ ⟨rfl,rfl⟩
 refine rE ?_
 try dsimp only [w0,w1,w2,w3]
 obtain ⟨p5,hp5,h⟩ := bindo h
 obtain ⟨p6,hp6,h⟩ := bindo h
 obtain ⟨p7,hp7,h⟩ := bindo h
 refine qQ rfl (qR rfl rfl (qS 12 rfl (oM · rfl) (qS 13 rfl (oM · rfl) (qS 14 rfl (ok_lookup · tu122 zi96 (fun β => .ptrNil) (keyStr tu9) (.tmp rfl) (.tmp rfl) hp5 (dP_out hp6)) (q_call (dst := some 15) rfl (.func _) (.cons (.tmp rfl) Evs.nil) (HInv.static set_Set_int_Len.at_ set_Set_int_Len.body (set_Set_int_Len.snd  hp7)) ?_)))))
 rintro _ _ ⟨rfl,rfl⟩
 try dsimp only [w0,w1,w2,w3]
 refine qS 16 rfl (oC · rfl rfl) (rE ?_)
 try dsimp only [w0,w1,w2,w3]
 rcases ifc h with ⟨hc8,h⟩ | ⟨hc8,h⟩
 ·obtain ⟨p9,hp9,h⟩ := bindo h
  refine q_cond_t rfl (.tmp rfl) (decide_eq_true hc8) (qR rfl rfl (qS 17 rfl (oM · rfl) (qS 18 rfl (oM · rfl) (qN rfl (ok_delete · rfl tu122 (keyStr tu9) (.tmp rfl) (.tmp rfl) hp9) (rE ?_)))))
  try dsimp only [w0,w1,w2,w3]
  exact J0_snd  h
 ·refine q_cond_f rfl (.tmp rfl) (decide_eq_false hc8) (q_skipc rfl ?_)
  try dsimp only [w0,w1,w2,w3]
  exact J0_snd  h
end
end pair_take_string_int
namespace pair_Rel_int_string_Remove
theorem at_ : FnAt Tryz.prog 38 Tryz.f38 := ⟨Tryz.func38,by kernel_rfl⟩
def d0 := (Tryz.f38.body).getD .skip
def r1 := kR (kA d0)
def r4 := kR (kA (kA (kB d0)))
def r7 := kR (kA (kA (kB (kA (kB d0)))))
def r11 := kR (kA (kB (kB d0)))
def r13 := kR (kA (kB (kB (kB d0))))
def r15 := kR (kA (kB (kB (kB (kB d0)))))
def r17 := kR (kA (kB (kB (kB (kB (kB d0))))))
def c0 : Code := .seq (.region 0 r1 false) (.seq (.seq (.region 1 r4 false) (.cond (.tmp 11) (.seq (.region 2 r7 false) .ret) .skip)) (.seq (.region 3 r11 false) (.seq (.region 4 r13 false) (.seq (.region 5 r15 false) (.seq (.region 6 r17 false) .ret)))))
theorem body : Tryz.f38.body = some c0 := by kernel_rfl
section
variable {base : Nat} {W0 : World} {β0 : Bt}
def f (k : Nat) (x0 : (Option HA)) (x1 : Int) (x2 : (List UInt8)) (S : HS) : Option ((Bool) × HS) :=
 (Option.bind (pair_Rel_int_string_Has.f k x0 x1 x2 S) fun p1 =>
 (if (!p1.1) = true then
 some (false,p1.2) else
 (Option.bind (x0) fun p3 =>
 (Option.bind (HS.ldM p1.2 (HA.fld p3 2)) fun p4 =>
 (Option.bind (pair_take_int_string.f k p4 x1 x2 p1.2) fun p5 =>
 (Option.bind (x0) fun p6 =>
 (Option.bind (HS.ldM p5.2 (HA.fld p6 3)) fun p7 =>
 (Option.bind (pair_take_string_int.f k p7 x2 x1 p5.2) fun p8 =>
 (Option.bind (x0) fun p9 =>
 (Option.bind (HS.ldI p8.2 .i64 (HA.fld p9 1)) fun p10 =>
 (Option.bind (x0) fun p11 =>
 (Option.bind (HS.sets p8.2 (HA.fld p11 1) [(.int .i64 (w64 (p10 - 1)))]) fun p12 =>
 some (true,p12)))))))))))))
theorem snd {x0 : (Option HA)} {x1 : Int} {x2 : (List UInt8)} {S : HS}  {p : (Bool) × HS} (h : f k x0 x1 x2 S = some p) : HCall Tryz.prog base W0 β0 38 [(.ptr x0),(.int .i64 x1),(.str x2)] S (fun v S1 => v = (.bool p.1) ∧ S1 = p.2) := by
 unfold f at h
 refine HCall.of_run at_.at_ body ?_
 show HRun Tryz.prog base W0 β0 38 none [.code c0] ⟨[(.ptr x0),(.int .i64 x1),(.str x2),τ,τ,τ,τ,τ,τ,τ,τ,τ,τ,τ,τ,τ,τ,τ,τ,τ,τ,τ,τ,τ,τ,τ,τ,τ,τ,τ,τ,τ,τ],[]⟩ S _
 refine qQ rfl (qR rfl rfl (qS 6 rfl (ok_assign · (.bool _)) (rE ?_)))
 try dsimp only [w0,w1,w2,w3]
 obtain ⟨p1,hp1,h⟩ := bindo h
 refine qQ rfl (qQ rfl (qR rfl rfl (qS 7 rfl (oM · rfl) (qS 8 rfl (oM · rfl) (qS 9 rfl (oM · rfl) (q_call (dst := some 10) rfl (.func _) (.cons (.tmp rfl) (.cons (.tmp rfl) (.cons (.tmp rfl) Evs.nil))) (HInv.static pair_Rel_int_string_Has.at_ pair_Rel_int_string_Has.body (pair_Rel_int_string_Has.snd  hp1)) ?_))))))
 rintro _ _ ⟨rfl,rfl⟩
 try dsimp only [w0,w1,w2,w3]
 refine qS 11 rfl (ok_not · (.tmp rfl)) (rE ?_)
 try dsimp only [w0,w1,w2,w3]
 rcases ifc h with ⟨hc2,h⟩ | ⟨hc2,h⟩
 ·refine q_cond_t rfl (.tmp rfl) hc2 (qQ rfl (qR rfl rfl (qS 6 rfl (ok_assign · (.bool _)) (rE ?_))))
  cases h
  exact q_ret rfl at_.at_ rfl (res1 rfl rfl) ⟨rfl,rfl⟩
 ·obtain ⟨p3,hp3,h⟩ := bindo h
  obtain ⟨p4,hp4,h⟩ := bindo h
  refine q_cond_f rfl (.tmp rfl) (bfalse hc2) (q_skipc rfl (qQ rfl (qR rfl rfl (qS 12 rfl (oM · rfl) (qS 13 rfl (oN · rfl hp3) (qS 14 rfl (oF · fi124_2 (by decide) rfl rfl) (qS 15 rfl (oL · sc121 rfl rfl (ldM_out hp4)) ?_)))))))
  try dsimp only [w0,w1,w2,w3]
  obtain ⟨p5,hp5,h⟩ := bindo h
  refine qS 16 rfl (oM · rfl) (qS 17 rfl (oM · rfl) (q_call (dst := some 18) rfl (.func _) (.cons (.tmp rfl) (.cons (.tmp rfl) (.cons (.tmp rfl) Evs.nil))) (HInv.static pair_take_int_string.at_ pair_take_int_string.body (pair_take_int_string.snd  hp5)) ?_))
  rintro _ _ ⟨rfl,rfl⟩
  refine rE ?_
  try dsimp only [w0,w1,w2,w3]
  obtain ⟨p6,hp6,h⟩ := bindo h
  obtain ⟨p7,hp7,h⟩ := bindo h
  refine qQ rfl (qR rfl rfl (qS 19 rfl (oM · rfl) (qS 20 rfl (oN · rfl hp6) (qS 21 rfl (oF · fi124_3 (by decide) rfl rfl) (qS 22 rfl (oL · sc122 rfl rfl (ldM_out hp7)) ?_)))))
  try dsimp only [w0,w1,w2,w3]
  obtain ⟨p8,hp8,h⟩ := bindo h
  refine qS 23 rfl (oM · rfl) (qS 24 rfl (oM · rfl) (q_call (dst := some 25) rfl (.func _) (.cons (.tmp rfl) (.cons (.tmp rfl) (.cons (.tmp rfl) Evs.nil))) (HInv.static pair_take_string_int.at_ pair_take_string_int.body (pair_take_string_int.snd  hp8)) ?_))
  rintro _ _ ⟨rfl,rfl⟩
  refine rE ?_
  try dsimp only [w0,w1,w2,w3]
  obtain ⟨p9,hp9,h⟩ := bindo h
  obtain ⟨p10,hp10,h⟩ := bindo h
  refine qQ rfl (qR rfl rfl (qS 26 rfl (oM · rfl) (qS 27 rfl (oN · rfl hp9) (qS 28 rfl (oF · fi124_1 (by decide) rfl rfl) (qS 29 rfl (oL · sc3 rfl rfl (ldI_out hp10)) ?_)))))
  try dsimp only [w0,w1,w2,w3]
  obtain ⟨p11,hp11,h⟩ := bindo h
  obtain ⟨p12,hp12,h⟩ := bindo h
  refine qS 30 rfl (oC · rfl rfl) (qS 31 rfl (oN · rfl hp11) (qS 32 rfl (oF · fi124_1 (by decide) rfl rfl) (qN rfl (ok_store_s (v := (.int .i64 (w64 (p10 - 1)))) · sz3 (.tmp rfl) rfl (.tmp rfl) rfl hp12) (rE ?_))))
  try dsimp only [w0,w1,w2,w3]
  refine qQ rfl (qR rfl rfl (qS 6 rfl (ok_assign · (.bool _)) (rE ?_)))
  cases h
  exact q_ret rfl at_.at_ rfl (res1 rfl rfl) ⟨rfl,rfl⟩
end
end pair_Rel_int_string_Remove
namespace slices_Delete_api_Member_api_Member
theorem at_ : FnAt Tryz.prog 71 Tryz.f71 := ⟨Tryz.func71,by kernel_rfl⟩
def d0 := (Tryz.f71.body).getD .skip
def r1 := kR (kA d0)
def r3 := kR (kA (kB d0))
def r6 := kR (kA (kA (kB (kB d0))))
def r9 := kR (kA (kA (kB (kA (kB (kB d0))))))
def d12 := kB (kB (kB d0))
def r13 := kR (kA d12)
def r15 := kR (kA (kB d12))
def r17 := kR (kA (kB (kB d12)))
def r19 := kR (kA (kB (kB (kB d12))))
def c0 : Code := .seq (.region 0 r1 false) (.seq (.region 1 r3 false) (.seq (.seq (.region 2 r6 false) (.cond (.tmp 16) (.seq (.region 3 r9 false) .ret) .skip)) (.seq (.region 4 r13 false) (.seq (.region 5 r15 true) (.seq (.region 6 r17 false) (.seq (.region 7 r19 false) .ret))))))
theorem body : Tryz.f71.body = some c0 := by kernel_rfl
section
variable {base : Nat} {W0 : World} {β0 : Bt}
def f (x0 : Sl) (x1 : Int) (x2 : Int) (S : HS) : Option ((Sl) × HS) :=
 (Option.bind (HS.cut3 S x0 x1 x2 (Sl.len x0 : Int) 3) fun p1 =>
 (if x1 = x2 then
 some (x0,S) else
 (Option.bind (HS.cut S x0 0 x1 3) fun p3 =>
 (Option.bind (HS.cut S x0 x2 (Sl.len x0 : Int) 3) fun p4 =>
 (Option.bind (HS.rows S p4 3) fun p5 =>
 (Option.bind (HS.app S p3 p5 3) fun p6 =>
 (Option.bind (HS.cut (p6.2) (p6.1) (Sl.len (p6.1) : Int) (Sl.len x0 : Int) 3) fun p7 =>
 (Option.bind (HS.over (p6.2) p7 (List.replicate (Sl.len p7) [(.int .i64 0),(.bool false),(.bool false)]) 3) fun p8 =>
 some ((p6.1),p8)))))))))
theorem snd {x0 : Sl} {x1 : Int} {x2 : Int} {S : HS}  {p : (Sl) × HS} (h : f x0 x1 x2 S = some p) : HCall Tryz.prog base W0 β0 71 [(Sl.hv x0),(.int .i64 x1),(.int .i64 x2)] S (fun v S1 => v = (Sl.hv p.1) ∧ S1 = p.2) := by
 unfold f at h
 refine HCall.of_run at_.at_ body ?_
 show HRun Tryz.prog base W0 β0 71 none [.code c0] ⟨[(Sl.hv x0),(.int .i64 x1),(.int .i64 x2),τ,τ,τ,τ,τ,τ,τ,τ,τ,τ,τ,τ,τ,τ,τ,τ,τ,τ,τ,τ,τ,τ,τ,τ,τ,τ,τ,τ,τ,τ],[]⟩ S _
 refine qQ rfl (qR rfl rfl (qS 6 rfl (ok_assign · (.const fun _ => .slNil none)) (rE ?_)))
 try dsimp only [w0,w1,w2,w3]
 refine qQ rfl (qR rfl rfl (qS 8 rfl (oM · rfl) (qS 9 rfl (oM · rfl) (qS 10 rfl (oM · rfl) (qS 11 rfl (oM · rfl) ?_)))))
 try dsimp only [w0,w1,w2,w3]
 obtain ⟨p1,hp1,h⟩ := bindo h
 refine qS 12 rfl (ok_len_sl (q := Sl.a x0) (n := Sl.len x0) (z := Sl.cap x0) · rfl tu87 (.tmp rfl)) (qS 13 rfl (ok_slice3 (kl := .i64) (kh := .i64) (s := x0) (l := x1) (h := x2) · tu87 si62 (.tmp rfl) (.inr ⟨_,rfl,(.tmp rfl)⟩) (.inr ⟨_,rfl,(.tmp rfl)⟩) (.tmp rfl) hp1) (rE ?_))
 try dsimp only [w0,w1,w2,w3]
 refine qQ rfl (qQ rfl (qR rfl rfl (qS 14 rfl (oM · rfl) (qS 15 rfl (oM · rfl) (qS 16 rfl (oB · rfl rfl rfl) (rE ?_))))))
 try dsimp only [w0,w1,w2,w3]
 rcases ifc h with ⟨hc2,h⟩ | ⟨hc2,h⟩
 ·refine q_cond_t rfl (.tmp rfl) (decide_eq_true hc2) (qQ rfl (qR rfl rfl (qS 17 rfl (oM · rfl) (qS 6 rfl (oA · rfl) (rE ?_)))))
  cases h
  exact q_ret rfl at_.at_ rfl (res1 rfl rfl) ⟨rfl,rfl⟩
 ·refine q_cond_f rfl (.tmp rfl) (decide_eq_false hc2) (q_skipc rfl (qQ rfl (qR rfl rfl (qS 18 rfl (oM · rfl) (qS 19 rfl (ok_len_sl (q := Sl.a x0) (n := Sl.len x0) (z := Sl.cap x0) · rfl tu87 (.tmp rfl)) (qS 7 rfl (oA · rfl) (rE ?_)))))))
  try dsimp only [w0,w1,w2,w3]
  refine qQ rfl ?_
  refine x_start (cls := [0,0,1,0,0,1,2,0]) (rk := [0,1,2,3,4,5,6,7]) rfl (by kernel_rfl) ?_
  refine yf 20 [0] rfl (oM · rfl) ?_
  refine yf 21 [1] rfl (oM · rfl) ?_
  obtain ⟨p3,hp3,h⟩ := bindo h
  refine yr 22 [20,21] rfl (ok_slice (kl := .i64) (kh := .i64) (s := x0) (l := 0) (h := x1) · tu87 si62 (.tmp rfl) (.inl ⟨rfl,rfl⟩) (.inr ⟨_,rfl,(.tmp rfl)⟩) hp3) ?_
  refine yf 23 [0] rfl (oM · rfl) ?_
  try dsimp only [w0,w1,w2,w3]
  refine yf 24 [2] rfl (oM · rfl) ?_
  obtain ⟨p4,hp4,h⟩ := bindo h
  refine yr 25 [23,24] rfl (ok_slice (kl := .i64) (kh := .i64) (s := x0) (l := x2) (h := (Sl.len x0 : Int)) · tu87 si62 (.tmp rfl) (.inr ⟨_,rfl,(.tmp rfl)⟩) (.inl ⟨rfl,rfl⟩) hp4) ?_
  obtain ⟨p5,hp5,h⟩ := bindo h
  obtain ⟨p6,hp6,h⟩ := bindo h
  refine ye 26 [22,25] rfl (ok_append (s := p3) (s1 := p4) el87 · rfl rfl ⟨_,tu87⟩ (.tmp rfl) (.tmp rfl) hp5 hp6) ?_
  refine yf 0 [26] rfl (oA · rfl) ?_
  refine x_rest rfl ?_
  refine rE ?_
  try dsimp only [w0,w1,w2,w3]
  refine qQ rfl (qR rfl rfl (qS 27 rfl (oM · rfl) (qS 28 rfl (oM · rfl) (qS 29 rfl (ok_len_sl (q := Sl.a (p6.1)) (n := Sl.len (p6.1)) (z := Sl.cap (p6.1)) · rfl tu87 (.tmp rfl)) (qS 30 rfl (oM · rfl) ?_)))))
  try dsimp only [w0,w1,w2,w3]
  obtain ⟨p7,hp7,h⟩ := bindo h
  obtain ⟨p8,hp8,h⟩ := bindo h
  refine qS 31 rfl (ok_slice (kl := .i64) (kh := .i64) (s := (p6.1)) (l := (Sl.len (p6.1) : Int)) (h := (Sl.len x0 : Int)) · tu87 si62 (.tmp rfl) (.inr ⟨_,rfl,(.tmp rfl)⟩) (.inr ⟨_,rfl,(.tmp rfl)⟩) hp7) (qN rfl (ok_clear (s := p7) el87 · rfl (.tmp rfl) hp8) (rE ?_))
  try dsimp only [w0,w1,w2,w3]
  refine qQ rfl (qR rfl rfl (qS 32 rfl (oM · rfl) (qS 6 rfl (oA · rfl) (rE ?_))))
  cases h
  exact q_ret rfl at_.at_ rfl (res1 rfl rfl) ⟨rfl,rfl⟩
end
end slices_Delete_api_Member_api_Member
namespace slices_Delete_api_Member_api_Member_w
theorem at_ : FnAt Tryz.prog 71 Tryz.f71 := slices_Delete_api_Member_api_Member.at_
theorem body : Tryz.f71.body = some slices_Delete_api_Member_api_Member.c0 := slices_Delete_api_Member_api_Member.body
def f (x0 : Sl) (x1 : Int) (x2 : Int) (S : HS) : Option ((Sl) × HS) := HS.del S x0 x1 x2 3
theorem snd {base : Nat} {W0 : World} {β0 : Bt} {x0 : Sl} {x1 x2 : Int} {S : HS} {p : (Sl) × HS} (h : f x0 x1 x2 S = some p) : HCall Tryz.prog base W0 β0 71 [(Sl.hv x0),(.int .i64 x1),(.int .i64 x2)] S (fun v S1 => v = (Sl.hv p.1) ∧ S1 = p.2) :=
 del_snd (zr := [(.int .i64 0),(.bool false),(.bool false)]) (fun _ _ _ h => slices_Delete_api_Member_api_Member.snd h) h
end slices_Delete_api_Member_api_Member_w
namespace room_Room_Drop
theorem at_ : FnAt Tryz.prog 40 Tryz.f40 := ⟨Tryz.func40,by kernel_rfl⟩
def d0 := (Tryz.f40.body).getD .skip
def r1 := kR (kA d0)
def r3 := kR (kA (kB d0))
def r6 := kR (kA (kA (kB (kB d0))))
def r8 := kR (kA (kB (kA (kB (kB d0)))))
def r11 := kR (kA (kB (kB (kB d0))))
def c10 : Code := .seq (.region 4 r11 false) .ret
def c0 : Code := .seq (.region 0 r1 false) (.seq (.region 1 r3 false) (.seq (.seq (.region 2 r6 false) (.cond (.tmp 13) (.region 3 r8 false) .skip)) c10))
theorem body : Tryz.f40.body = some c0 := by kernel_rfl
section
variable {base : Nat} {W0 : World} {β0 : Bt}
def J0 (D : Dp) (H : Hd) (k : Nat) (y6 : Bool) (S : HS) : Option ((Bool) × HS) :=
 some (y6,S)
theorem J0_snd (hD : DSound Tryz.prog base W0 D) (hH : HSound Tryz.prog base W0 β0 H)  {y6 : Bool} {S : HS} {p : (Bool) × HS} (h : J0 D H k y6 S = some p) : HRun Tryz.prog base W0 β0 40 none [.code c10] ⟨[Ga,Gb,Gc,Gd,Ge,Gf,(.bool y6),Gh,Gi,Gj,Gk,Gl,Gm,Gn,Go,Gp,Gq,Gr,Gs,Gt,Gu,Gv,Gw,Gx,Gy,Gz],[]⟩ S (fun v S1 => v = (.bool p.1) ∧ S1 = p.2) := by
 unfold J0 at h
 refine qQ rfl (qR rfl rfl (qS 25 rfl (oM · rfl) (qS 4 rfl (oA · rfl) (rE ?_))))
 cases h
 exact q_ret rfl at_.at_ rfl (res1 rfl rfl) ⟨rfl,rfl⟩
def f (D : Dp) (H : Hd) (k : Nat) (x0 : (Option HA)) (x1 : Int) (S : HS) : Option ((Bool) × HS) :=
 (Option.bind (room_Room_at.f D H k x0 x1 S) fun p1 =>
 (if p1.1.2 = true then
 (Option.bind (x0) fun p3 =>
 (Option.bind (HS.ldSl p1.2 (HA.fld p3 2)) fun p4 =>
 (Option.bind (slices_Delete_api_Member_api_Member_w.f p4 p1.1.1 (w64 (p1.1.1 + 1)) p1.2) fun p5 =>
 (Option.bind (x0) fun p6 =>
 (Option.bind (HS.sets p5.2 (HA.fld p6 2) [(Sl.hv p5.1)]) fun p7 =>
 J0 D H k p1.1.2 p7))))) else
 J0 D H k p1.1.2 p1.2))
theorem snd {x0 : (Option HA)} {x1 : Int} {S : HS} (hD : DSound Tryz.prog base W0 D) (hH : HSound Tryz.prog base W0 β0 H)  {p : (Bool) × HS} (h : f D H k x0 x1 S = some p) : HCall Tryz.prog base W0 β0 40 [(.ptr x0),(.int .i64 x1)] S (fun v S1 => v = (.bool p.1) ∧ S1 = p.2) := by
 unfold f at h
 refine HCall.of_run at_.at_ body ?_
 show HRun Tryz.prog base W0 β0 40 none [.code c0] ⟨[(.ptr x0),(.int .i64 x1),τ,τ,τ,τ,τ,τ,τ,τ,τ,τ,τ,τ,τ,τ,τ,τ,τ,τ,τ,τ,τ,τ,τ,τ],[]⟩ S _
 refine qQ rfl (qR rfl rfl (qS 4 rfl (ok_assign · (.bool _)) (rE ?_)))
 try dsimp only [w0,w1,w2,w3]
 obtain ⟨p1,hp1,h⟩ := bindo h
 refine qQ rfl (qR rfl rfl (qS 8 rfl (oM · rfl) (qS 9 rfl (oM · rfl) (q_call (dst := some 10) rfl (.func _) (.cons (.tmp rfl) (.cons (.tmp rfl) Evs.nil)) (HInv.static room_Room_at.at_ room_Room_at.body (room_Room_at.snd hD hH hp1)) ?_))))
 rintro _ _ ⟨rfl,rfl⟩
 refine qS 7 rfl (oM · rfl) ?_
 try dsimp only [w0,w1,w2,w3]
 refine qS 11 rfl (ok_extract · (.tmp rfl) rfl) (qS 12 rfl (ok_extract · (.tmp rfl) rfl) (qS 5 rfl (oA · rfl) (qS 6 rfl (oA · rfl) (rE ?_))))
 try dsimp only [w0,w1,w2,w3]
 refine qQ rfl (qQ rfl (qR rfl rfl (qS 13 rfl (oM · rfl) (rE ?_))))
 try dsimp only [w0,w1,w2,w3]
 rcases ifc h with ⟨hc2,h⟩ | ⟨hc2,h⟩
 ·obtain ⟨p3,hp3,h⟩ := bindo h
  refine q_cond_t rfl (.tmp rfl) hc2 (qR rfl rfl (qS 14 rfl (oM · rfl) (qS 15 rfl (oM · rfl) (qS 16 rfl (oN · rfl hp3) (qS 17 rfl (oF · fi114_2 (by decide) rfl rfl) ?_)))))
  try dsimp only [w0,w1,w2,w3]
  obtain ⟨p4,hp4,h⟩ := bindo h
  refine qS 18 rfl (oL · sc87 rfl rfl (ldSl_out hp4)) (qS 19 rfl (oM · rfl) (qS 20 rfl (oM · rfl) (qS 21 rfl (oC · rfl rfl) ?_)))
  try dsimp only [w0,w1,w2,w3]
  obtain ⟨p5,hp5,h⟩ := bindo h
  refine q_call (dst := some 22) rfl (.func _) (.cons (.tmp rfl) (.cons (.tmp rfl) (.cons (.tmp rfl) Evs.nil))) (HInv.static slices_Delete_api_Member_api_Member_w.at_ slices_Delete_api_Member_api_Member_w.body (slices_Delete_api_Member_api_Member_w.snd  hp5)) ?_
  rintro _ _ ⟨rfl,rfl⟩
  obtain ⟨p6,hp6,h⟩ := bindo h
  obtain ⟨p7,hp7,h⟩ := bindo h
  refine qS 23 rfl (oN · rfl hp6) (qS 24 rfl (oF · fi114_2 (by decide) rfl rfl) (qN rfl (ok_store_s (v := (Sl.hv p5.1)) · sz87 (.tmp rfl) rfl (.tmp rfl) rfl hp7) (rE ?_)))
  try dsimp only [w0,w1,w2,w3]
  exact J0_snd hD hH h
 ·refine q_cond_f rfl (.tmp rfl) (bfalse hc2) (q_skipc rfl ?_)
  try dsimp only [w0,w1,w2,w3]
  exact J0_snd hD hH h
end
end room_Room_Drop
namespace room_Room_Len
theorem at_ : FnAt Tryz.prog 23 Tryz.f23 := ⟨Tryz.func23,by kernel_rfl⟩
def d0 := (Tryz.f23.body).getD .skip
def r1 := kR (kA d0)
def r4 := kR (kA (kA (kB d0)))
def r7 := kR (kA (kA (kB (kA (kB d0)))))
def r11 := kR (kA (kB (kB d0)))
def c0 : Code := .seq (.region 0 r1 false) (.seq (.seq (.region 1 r4 false) (.cond (.tmp 4) (.seq (.region 2 r7 false) .ret) .skip)) (.seq (.region 3 r11 false) .ret))
theorem body : Tryz.f23.body = some c0 := by kernel_rfl
section
variable {base : Nat} {W0 : World} {β0 : Bt}
def f (x0 : (Option HA)) (S : HS) : Option ((Int) × HS) :=
 (if (Option.isNone x0) = true then
 some (0,S) else
 (Option.bind (x0) fun p2 =>
 (Option.bind (HS.ldSl S (HA.fld p2 2)) fun p3 =>
 some ((Sl.len p3 : Int),S))))
theorem snd {x0 : (Option HA)} {S : HS}  {p : (Int) × HS} (h : f x0 S = some p) : HCall Tryz.prog base W0 β0 23 [(.ptr x0)] S (fun v S1 => v = (.int .i64 p.1) ∧ S1 = p.2) := by
 unfold f at h
 refine HCall.of_run at_.at_ body ?_
 show HRun Tryz.prog base W0 β0 23 none [.code c0] ⟨[(.ptr x0),τ,τ,τ,τ,τ,τ,τ,τ,τ],[]⟩ S _
 refine qQ rfl (qR rfl rfl (qS 2 rfl (ok_assign · (.int _ _)) (rE ?_)))
 try dsimp only [w0,w1,w2,w3]
 refine qQ rfl (qQ rfl (qR rfl rfl (qS 3 rfl (oM · rfl) (qS 4 rfl (ok_nil_ptr · tu36 (.tmp rfl) (.inl ⟨rfl,rfl⟩)) (rE ?_)))))
 try dsimp only [w0,w1,w2,w3]
 rcases ifc h with ⟨hc1,h⟩ | ⟨hc1,h⟩
 ·refine q_cond_t rfl (.tmp rfl) hc1 (qQ rfl (qR rfl rfl (qS 2 rfl (ok_assign · (.int _ _)) (rE ?_))))
  cases h
  exact q_ret rfl at_.at_ rfl (res1 rfl rfl) ⟨rfl,rfl⟩
 ·obtain ⟨p2,hp2,h⟩ := bindo h
  obtain ⟨p3,hp3,h⟩ := bindo h
  refine q_cond_f rfl (.tmp rfl) (bfalse hc1) (q_skipc rfl (qQ rfl (qR rfl rfl (qS 5 rfl (oM · rfl) (qS 6 rfl (oN · rfl hp2) (qS 7 rfl (oF · fi114_2 (by decide) rfl rfl) (qS 8 rfl (oL · sc87 rfl rfl (ldSl_out hp3)) ?_)))))))
  try dsimp only [w0,w1,w2,w3]
  refine qS 9 rfl (ok_len_sl (q := Sl.a p3) (n := Sl.len p3) (z := Sl.cap p3) · rfl tu87 (.tmp rfl)) (qS 2 rfl (oA · rfl) (rE ?_))
  cases h
  exact q_ret rfl at_.at_ rfl (res1 rfl rfl) ⟨rfl,rfl⟩
end
end room_Room_Len
namespace slices_Delete_book_entry_room_Room_book_entry_room_Room
theorem at_ : FnAt Tryz.prog 73 Tryz.f73 := ⟨Tryz.func73,by kernel_rfl⟩
def d0 := (Tryz.f73.body).getD .skip
def r1 := kR (kA d0)
def r3 := kR (kA (kB d0))
def r6 := kR (kA (kA (kB (kB d0))))
def r9 := kR (kA (kA (kB (kA (kB (kB d0))))))
def d12 := kB (kB (kB d0))
def r13 := kR (kA d12)
def r15 := kR (kA (kB d12))
def r17 := kR (kA (kB (kB d12)))
def r19 := kR (kA (kB (kB (kB d12))))
def c0 : Code := .seq (.region 0 r1 false) (.seq (.region 1 r3 false) (.seq (.seq (.region 2 r6 false) (.cond (.tmp 16) (.seq (.region 3 r9 false) .ret) .skip)) (.seq (.region 4 r13 false) (.seq (.region 5 r15 true) (.seq (.region 6 r17 false) (.seq (.region 7 r19 false) .ret))))))
theorem body : Tryz.f73.body = some c0 := by kernel_rfl
section
variable {base : Nat} {W0 : World} {β0 : Bt}
def f (x0 : Sl) (x1 : Int) (x2 : Int) (S : HS) : Option ((Sl) × HS) :=
 (Option.bind (HS.cut3 S x0 x1 x2 (Sl.len x0 : Int) 2) fun p1 =>
 (if x1 = x2 then
 some (x0,S) else
 (Option.bind (HS.cut S x0 0 x1 2) fun p3 =>
 (Option.bind (HS.cut S x0 x2 (Sl.len x0 : Int) 2) fun p4 =>
 (Option.bind (HS.rows S p4 2) fun p5 =>
 (Option.bind (HS.app S p3 p5 2) fun p6 =>
 (Option.bind (HS.cut (p6.2) (p6.1) (Sl.len (p6.1) : Int) (Sl.len x0 : Int) 2) fun p7 =>
 (Option.bind (HS.over (p6.2) p7 (List.replicate (Sl.len p7) [(.str []),(.ptr none)]) 2) fun p8 =>
 some ((p6.1),p8)))))))))
theorem snd {x0 : Sl} {x1 : Int} {x2 : Int} {S : HS}  {p : (Sl) × HS} (h : f x0 x1 x2 S = some p) : HCall Tryz.prog base W0 β0 73 [(Sl.hv x0),(.int .i64 x1),(.int .i64 x2)] S (fun v S1 => v = (Sl.hv p.1) ∧ S1 = p.2) := by
 unfold f at h
 refine HCall.of_run at_.at_ body ?_
 show HRun Tryz.prog base W0 β0 73 none [.code c0] ⟨[(Sl.hv x0),(.int .i64 x1),(.int .i64 x2),τ,τ,τ,τ,τ,τ,τ,τ,τ,τ,τ,τ,τ,τ,τ,τ,τ,τ,τ,τ,τ,τ,τ,τ,τ,τ,τ,τ,τ,τ],[]⟩ S _
 refine qQ rfl (qR rfl rfl (qS 6 rfl (ok_assign · (.const fun _ => .slNil none)) (rE ?_)))
 try dsimp only [w0,w1,w2,w3]
 refine qQ rfl (qR rfl rfl (qS 8 rfl (oM · rfl) (qS 9 rfl (oM · rfl) (qS 10 rfl (oM · rfl) (qS 11 rfl (oM · rfl) ?_)))))
 try dsimp only [w0,w1,w2,w3]
 obtain ⟨p1,hp1,h⟩ := bindo h
 refine qS 12 rfl (ok_len_sl (q := Sl.a x0) (n := Sl.len x0) (z := Sl.cap x0) · rfl tu118 (.tmp rfl)) (qS 13 rfl (ok_slice3 (kl := .i64) (kh := .i64) (s := x0) (l := x1) (h := x2) · tu118 si133 (.tmp rfl) (.inr ⟨_,rfl,(.tmp rfl)⟩) (.inr ⟨_,rfl,(.tmp rfl)⟩) (.tmp rfl) hp1) (rE ?_))
 try dsimp only [w0,w1,w2,w3]
 refine qQ rfl (qQ rfl (qR rfl rfl (qS 14 rfl (oM · rfl) (qS 15 rfl (oM · rfl) (qS 16 rfl (oB · rfl rfl rfl) (rE ?_))))))
 try dsimp only [w0,w1,w2,w3]
 rcases ifc h with ⟨hc2,h⟩ | ⟨hc2,h⟩
 ·refine q_cond_t rfl (.tmp rfl) (decide_eq_true hc2) (qQ rfl (qR rfl rfl (qS 17 rfl (oM · rfl) (qS 6 rfl (oA · rfl) (rE ?_)))))
  cases h
  exact q_ret rfl at_.at_ rfl (res1 rfl rfl) ⟨rfl,rfl⟩
 ·refine q_cond_f rfl (.tmp rfl) (decide_eq_false hc2) (q_skipc rfl (qQ rfl (qR rfl rfl (qS 18 rfl (oM · rfl) (qS 19 rfl (ok_len_sl (q := Sl.a x0) (n := Sl.len x0) (z := Sl.cap x0) · rfl tu118 (.tmp rfl)) (qS 7 rfl (oA · rfl) (rE ?_)))))))
  try dsimp only [w0,w1,w2,w3]
  refine qQ rfl ?_
  refine x_start (cls := [0,0,1,0,0,1,2,0]) (rk := [0,1,2,3,4,5,6,7]) rfl (by kernel_rfl) ?_
  refine yf 20 [0] rfl (oM · rfl) ?_
  refine yf 21 [1] rfl (oM · rfl) ?_
  obtain ⟨p3,hp3,h⟩ := bindo h
  refine yr 22 [20,21] rfl (ok_slice (kl := .i64) (kh := .i64) (s := x0) (l := 0) (h := x1) · tu118 si133 (.tmp rfl) (.inl ⟨rfl,rfl⟩) (.inr ⟨_,rfl,(.tmp rfl)⟩) hp3) ?_
  refine yf 23 [0] rfl (oM · rfl) ?_
  try dsimp only [w0,w1,w2,w3]
  refine yf 24 [2] rfl (oM · rfl) ?_
  obtain ⟨p4,hp4,h⟩ := bindo h
  refine yr 25 [23,24] rfl (ok_slice (kl := .i64) (kh := .i64) (s := x0) (l := x2) (h := (Sl.len x0 : Int)) · tu118 si133 (.tmp rfl) (.inr ⟨_,rfl,(.tmp rfl)⟩) (.inl ⟨rfl,rfl⟩) hp4) ?_
  obtain ⟨p5,hp5,h⟩ := bindo h
  obtain ⟨p6,hp6,h⟩ := bindo h
  refine ye 26 [22,25] rfl (ok_append (s := p3) (s1 := p4) el118 · rfl rfl ⟨_,tu118⟩ (.tmp rfl) (.tmp rfl) hp5 hp6) ?_
  refine yf 0 [26] rfl (oA · rfl) ?_
  refine x_rest rfl ?_
  refine rE ?_
  try dsimp only [w0,w1,w2,w3]
  refine qQ rfl (qR rfl rfl (qS 27 rfl (oM · rfl) (qS 28 rfl (oM · rfl) (qS 29 rfl (ok_len_sl (q := Sl.a (p6.1)) (n := Sl.len (p6.1)) (z := Sl.cap (p6.1)) · rfl tu118 (.tmp rfl)) (qS 30 rfl (oM · rfl) ?_)))))
  try dsimp only [w0,w1,w2,w3]
  obtain ⟨p7,hp7,h⟩ := bindo h
  obtain ⟨p8,hp8,h⟩ := bindo h
  refine qS 31 rfl (ok_slice (kl := .i64) (kh := .i64) (s := (p6.1)) (l := (Sl.len (p6.1) : Int)) (h := (Sl.len x0 : Int)) · tu118 si133 (.tmp rfl) (.inr ⟨_,rfl,(.tmp rfl)⟩) (.inr ⟨_,rfl,(.tmp rfl)⟩) hp7) (qN rfl (ok_clear (s := p7) el118 · rfl (.tmp rfl) hp8) (rE ?_))
  try dsimp only [w0,w1,w2,w3]
  refine qQ rfl (qR rfl rfl (qS 32 rfl (oM · rfl) (qS 6 rfl (oA · rfl) (rE ?_))))
  cases h
  exact q_ret rfl at_.at_ rfl (res1 rfl rfl) ⟨rfl,rfl⟩
end
end slices_Delete_book_entry_room_Room_book_entry_room_Room
namespace slices_Delete_book_entry_room_Room_book_entry_room_Room_w
theorem at_ : FnAt Tryz.prog 73 Tryz.f73 := slices_Delete_book_entry_room_Room_book_entry_room_Room.at_
theorem body : Tryz.f73.body = some slices_Delete_book_entry_room_Room_book_entry_room_Room.c0 := slices_Delete_book_entry_room_Room_book_entry_room_Room.body
def f (x0 : Sl) (x1 : Int) (x2 : Int) (S : HS) : Option ((Sl) × HS) := HS.del S x0 x1 x2 2
theorem snd {base : Nat} {W0 : World} {β0 : Bt} {x0 : Sl} {x1 x2 : Int} {S : HS} {p : (Sl) × HS} (h : f x0 x1 x2 S = some p) : HCall Tryz.prog base W0 β0 73 [(Sl.hv x0),(.int .i64 x1),(.int .i64 x2)] S (fun v S1 => v = (Sl.hv p.1) ∧ S1 = p.2) :=
 del_snd (zr := [(.str []),(.ptr none)]) (fun _ _ _ h => slices_Delete_book_entry_room_Room_book_entry_room_Room.snd h) h
end slices_Delete_book_entry_room_Room_book_entry_room_Room_w
namespace book_Book_room_Room_Delete
theorem at_ : FnAt Tryz.prog 41 Tryz.f41 := ⟨Tryz.func41,by kernel_rfl⟩
def d0 := (Tryz.f41.body).getD .skip
def r1 := kR (kA d0)
def r3 := kR (kA (kB d0))
def r6 := kR (kA (kA (kB (kB d0))))
def r8 := kR (kA (kB (kA (kB (kB d0)))))
def r11 := kR (kA (kB (kB (kB d0))))
def c10 : Code := .seq (.region 4 r11 false) .ret
def c0 : Code := .seq (.region 0 r1 false) (.seq (.region 1 r3 false) (.seq (.seq (.region 2 r6 false) (.cond (.tmp 13) (.region 3 r8 false) .skip)) c10))
theorem body : Tryz.f41.body = some c0 := by kernel_rfl
section
variable {base : Nat} {W0 : World} {β0 : Bt}
def J0 (D : Dp) (H : Hd) (k : Nat) (y6 : Bool) (S : HS) : Option ((Bool) × HS) :=
 some (y6,S)
theorem J0_snd (hD : DSound Tryz.prog base W0 D) (hH : HSound Tryz.prog base W0 β0 H)  {y6 : Bool} {S : HS} {p : (Bool) × HS} (h : J0 D H k y6 S = some p) : HRun Tryz.prog base W0 β0 41 none [.code c10] ⟨[Ga,Gb,Gc,Gd,Ge,Gf,(.bool y6),Gh,Gi,Gj,Gk,Gl,Gm,Gn,Go,Gp,Gq,Gr,Gs,Gt,Gu,Gv,Gw,Gx,Gy,Gz],[]⟩ S (fun v S1 => v = (.bool p.1) ∧ S1 = p.2) := by
 unfold J0 at h
 refine qQ rfl (qR rfl rfl (qS 25 rfl (oM · rfl) (qS 4 rfl (oA · rfl) (rE ?_))))
 cases h
 exact q_ret rfl at_.at_ rfl (res1 rfl rfl) ⟨rfl,rfl⟩
def f (D : Dp) (H : Hd) (k : Nat) (x0 : (Option HA)) (x1 : (List UInt8)) (S : HS) : Option ((Bool) × HS) :=
 (Option.bind (book_Book_room_Room_at.f D H k x0 x1 S) fun p1 =>
 (if p1.1.2 = true then
 (Option.bind (x0) fun p3 =>
 (Option.bind (HS.ldSl p1.2 (HA.fld p3 1)) fun p4 =>
 (Option.bind (slices_Delete_book_entry_room_Room_book_entry_room_Room_w.f p4 p1.1.1 (w64 (p1.1.1 + 1)) p1.2) fun p5 =>
 (Option.bind (x0) fun p6 =>
 (Option.bind (HS.sets p5.2 (HA.fld p6 1) [(Sl.hv p5.1)]) fun p7 =>
 J0 D H k p1.1.2 p7))))) else
 J0 D H k p1.1.2 p1.2))
theorem snd {x0 : (Option HA)} {x1 : (List UInt8)} {S : HS} (hD : DSound Tryz.prog base W0 D) (hH : HSound Tryz.prog base W0 β0 H)  {p : (Bool) × HS} (h : f D H k x0 x1 S = some p) : HCall Tryz.prog base W0 β0 41 [(.ptr x0),(.str x1)] S (fun v S1 => v = (.bool p.1) ∧ S1 = p.2) := by
 unfold f at h
 refine HCall.of_run at_.at_ body ?_
 show HRun Tryz.prog base W0 β0 41 none [.code c0] ⟨[(.ptr x0),(.str x1),τ,τ,τ,τ,τ,τ,τ,τ,τ,τ,τ,τ,τ,τ,τ,τ,τ,τ,τ,τ,τ,τ,τ,τ],[]⟩ S _
 refine qQ rfl (qR rfl rfl (qS 4 rfl (ok_assign · (.bool _)) (rE ?_)))
 try dsimp only [w0,w1,w2,w3]
 obtain ⟨p1,hp1,h⟩ := bindo h
 refine qQ rfl (qR rfl rfl (qS 8 rfl (oM · rfl) (qS 9 rfl (oM · rfl) (q_call (dst := some 10) rfl (.func _) (.cons (.tmp rfl) (.cons (.tmp rfl) Evs.nil)) (HInv.static book_Book_room_Room_at.at_ book_Book_room_Room_at.body (book_Book_room_Room_at.snd hD hH hp1)) ?_))))
 rintro _ _ ⟨rfl,rfl⟩
 refine qS 7 rfl (oM · rfl) ?_
 try dsimp only [w0,w1,w2,w3]
 refine qS 11 rfl (ok_extract · (.tmp rfl) rfl) (qS 12 rfl (ok_extract · (.tmp rfl) rfl) (qS 5 rfl (oA · rfl) (qS 6 rfl (oA · rfl) (rE ?_))))
 try dsimp only [w0,w1,w2,w3]
 refine qQ rfl (qQ rfl (qR rfl rfl (qS 13 rfl (oM · rfl) (rE ?_))))
 try dsimp only [w0,w1,w2,w3]
 rcases ifc h with ⟨hc2,h⟩ | ⟨hc2,h⟩
 ·obtain ⟨p3,hp3,h⟩ := bindo h
  refine q_cond_t rfl (.tmp rfl) hc2 (qR rfl rfl (qS 14 rfl (oM · rfl) (qS 15 rfl (oM · rfl) (qS 16 rfl (oN · rfl hp3) (qS 17 rfl (oF · fi120_1 (by decide) rfl rfl) ?_)))))
  try dsimp only [w0,w1,w2,w3]
  obtain ⟨p4,hp4,h⟩ := bindo h
  refine qS 18 rfl (oL · sc118 rfl rfl (ldSl_out hp4)) (qS 19 rfl (oM · rfl) (qS 20 rfl (oM · rfl) (qS 21 rfl (oC · rfl rfl) ?_)))
  try dsimp only [w0,w1,w2,w3]
  obtain ⟨p5,hp5,h⟩ := bindo h
  refine q_call (dst := some 22) rfl (.func _) (.cons (.tmp rfl) (.cons (.tmp rfl) (.cons (.tmp rfl) Evs.nil))) (HInv.static slices_Delete_book_entry_room_Room_book_entry_room_Room_w.at_ slices_Delete_book_entry_room_Room_book_entry_room_Room_w.body (slices_Delete_book_entry_room_Room_book_entry_room_Room_w.snd  hp5)) ?_
  rintro _ _ ⟨rfl,rfl⟩
  obtain ⟨p6,hp6,h⟩ := bindo h
  obtain ⟨p7,hp7,h⟩ := bindo h
  refine qS 23 rfl (oN · rfl hp6) (qS 24 rfl (oF · fi120_1 (by decide) rfl rfl) (qN rfl (ok_store_s (v := (Sl.hv p5.1)) · sz118 (.tmp rfl) rfl (.tmp rfl) rfl hp7) (rE ?_)))
  try dsimp only [w0,w1,w2,w3]
  exact J0_snd hD hH h
 ·refine q_cond_f rfl (.tmp rfl) (bfalse hc2) (q_skipc rfl ?_)
  try dsimp only [w0,w1,w2,w3]
  exact J0_snd hD hH h
end
end book_Book_room_Room_Delete
namespace rooms_Rooms_Part
theorem at_ : FnAt Tryz.prog 10 Tryz.f10 := ⟨Tryz.func10,by kernel_rfl⟩
def d0 := (Tryz.f10.body).getD .skip
def r1 := kR (kA d0)
def r3 := kR (kA (kB d0))
def r6 := kR (kA (kA (kB (kB d0))))
def r9 := kR (kA (kA (kB (kA (kB (kB d0))))))
def d12 := kB (kB (kB d0))
def r13 := kR (kA d12)
def r16 := kR (kA (kA (kB d12)))
def r18 := kR (kA (kB (kA (kB d12))))
def r21 := kR (kA (kB (kB d12)))
def c20 : Code := .seq (.region 7 r21 false) .ret
def c12 : Code := .seq (.region 4 r13 false) (.seq (.seq (.region 5 r16 false) (.cond (.tmp 33) (.region 6 r18 false) .skip)) c20)
def c7 : Code := .cond (.tmp 27) (.seq (.region 3 r9 false) .ret) .skip
def c0 : Code := .seq (.region 0 r1 false) (.seq (.region 1 r3 false) (.seq (.seq (.region 2 r6 true) c7) c12))
theorem body : Tryz.f10.body = some c0 := by kernel_rfl
section
variable {base : Nat} {W0 : World} {β0 : Bt}
def J1 (D : Dp) (H : Hd) (k : Nat) (S : HS) : Option ((Bool) × HS) :=
 some (true,S)
theorem J1_snd (hD : DSound Tryz.prog base W0 D) (hH : HSound Tryz.prog base W0 β0 H)  {S : HS} {p : (Bool) × HS} (h : J1 D H k S = some p) : HRun Tryz.prog base W0 β0 10 none [.code c20] ⟨[Ga,Gb,Gc,Gd,Ge,Gf,Gg,Gh,Gi,Gj,Gk,Gl,Gm,Gn,Go,Gp,Gq,Gr,Gs,Gt,Gu,Gv,Gw,Gx,Gy,Gz,Ka,Kb,Kc,Kd,Ke,Kf,Kg,Kh,Ki,Kj,Kk,Kl,Km,Kn],[]⟩ S (fun v S1 => v = (.bool p.1) ∧ S1 = p.2) := by
 unfold J1 at h
 refine qQ rfl (qR rfl rfl (qS 6 rfl (ok_assign · (.bool _)) (rE ?_)))
 cases h
 exact q_ret rfl at_.at_ rfl (res1 rfl rfl) ⟨rfl,rfl⟩
def J0 (D : Dp) (H : Hd) (k : Nat) (y0 : (Option HA)) (y1 : Int) (y2 : (List UInt8)) (y7 : (Option HA)) (y27 : Bool) (S : HS) : Option ((Bool) × HS) :=
 (if y27 = true then
 some (false,S) else
 (Option.bind (room_Room_Drop.f D H k y7 y1 S) fun p4 =>
 (Option.bind (room_Room_Len.f y7 p4.2) fun p5 =>
 (if p5.1 = 0 then
 (Option.bind (y0) fun p7 =>
 (Option.bind (HS.ldP p5.2 (HA.fld p7 15)) fun p8 =>
 (Option.bind (book_Book_room_Room_Delete.f D H k p8 y2 p5.2) fun p9 =>
 J1 D H k p9.2))) else
 J1 D H k p5.2))))
theorem J0_snd (hD : DSound Tryz.prog base W0 D) (hH : HSound Tryz.prog base W0 β0 H)  {y0 : (Option HA)} {y1 : Int} {y2 : (List UInt8)} {y7 : (Option HA)} {y27 : Bool} {S : HS} {p : (Bool) × HS} (h : J0 D H k y0 y1 y2 y7 y27 S = some p) : HRun Tryz.prog base W0 β0 10 none [.code c7,.code c12] ⟨[(.ptr y0),(.int .i64 y1),(.str y2),Gd,Ge,Gf,Gg,(.ptr y7),Gi,Gj,Gk,Gl,Gm,Gn,Go,Gp,Gq,Gr,Gs,Gt,Gu,Gv,Gw,Gx,Gy,Gz,Ka,(.bool y27),Kc,Kd,Ke,Kf,Kg,Kh,Ki,Kj,Kk,Kl,Km,Kn],[]⟩ S (fun v S1 => v = (.bool p.1) ∧ S1 = p.2) := by
 unfold J0 at h
 rcases ifc h with ⟨hc3,h⟩ | ⟨hc3,h⟩
 ·refine q_cond_t rfl (.tmp rfl) hc3 (qQ rfl (qR rfl rfl (qS 6 rfl (ok_assign · (.bool _)) (rE ?_))))
  cases h
  exact q_ret rfl at_.at_ rfl (res1 rfl rfl) ⟨rfl,rfl⟩
 ·obtain ⟨p4,hp4,h⟩ := bindo h
  refine q_cond_f rfl (.tmp rfl) (bfalse hc3) (q_skipc rfl (qQ rfl (qR rfl rfl (qS 28 rfl (oM · rfl) (qS 29 rfl (oM · rfl) (q_call (dst := some 30) rfl (.func _) (.cons (.tmp rfl) (.cons (.tmp rfl) Evs.nil)) (HInv.static room_Room_Drop.at_ room_Room_Drop.body (room_Room_Drop.snd hD hH hp4)) ?_))))))
  rintro _ _ ⟨rfl,rfl⟩
  refine rE ?_
  try dsimp only [w0,w1,w2,w3]
  obtain ⟨p5,hp5,h⟩ := bindo h
  refine qQ rfl (qQ rfl (qR rfl rfl (qS 31 rfl (oM · rfl) (q_call (dst := some 32) rfl (.func _) (.cons (.tmp rfl) Evs.nil) (HInv.static room_Room_Len.at_ room_Room_Len.body (room_Room_Len.snd  hp5)) ?_))))
  rintro _ _ ⟨rfl,rfl⟩
  refine qS 33 rfl (oC · rfl rfl) (rE ?_)
  try dsimp only [w0,w1,w2,w3]
  rcases ifc h with ⟨hc6,h⟩ | ⟨hc6,h⟩
  ·obtain ⟨p7,hp7,h⟩ := bindo h
   obtain ⟨p8,hp8,h⟩ := bindo h
   refine q_cond_t rfl (.tmp rfl) (decide_eq_true hc6) (qR rfl rfl (qS 34 rfl (oM · rfl) (qS 35 rfl (oN · rfl hp7) (qS 36 rfl (oF · fi83_1 (by decide) rfl rfl) (qS 37 rfl (oL · sc75 rfl rfl (ldP_out hp8)) ?_)))))
   try dsimp only [w0,w1,w2,w3]
   obtain ⟨p9,hp9,h⟩ := bindo h
   refine qS 38 rfl (oM · rfl) (q_call (dst := some 39) rfl (.func _) (.cons (.tmp rfl) (.cons (.tmp rfl) Evs.nil)) (HInv.static book_Book_room_Room_Delete.at_ book_Book_room_Room_Delete.body (book_Book_room_Room_Delete.snd hD hH hp9)) ?_)
   rintro _ _ ⟨rfl,rfl⟩
   refine rE ?_
   try dsimp only [w0,w1,w2,w3]
   exact J1_snd hD hH h
  ·refine q_cond_f rfl (.tmp rfl) (decide_eq_false hc6) (q_skipc rfl ?_)
   try dsimp only [w0,w1,w2,w3]
   exact J1_snd hD hH h
def f (D : Dp) (H : Hd) (k : Nat) (x0 : (Option HA)) (x1 : Int) (x2 : (List UInt8)) (S : HS) : Option ((Bool) × HS) :=
 (Option.bind (rooms_Rooms_Get.f D H k x0 x2 S) fun p1 =>
 (if (!p1.1.2) = true then
 J0 D H k x0 x1 x2 p1.1.1 true p1.2 else
 (Option.bind (x0) fun p10 =>
 (Option.bind (HS.ldP p1.2 (HA.fld p10 16)) fun p11 =>
 (Option.bind (fold_Text.f k x2 p1.2) fun p12 =>
 (Option.bind (HS.ldP p12.2 (HA.fld p10 16)) fun p13 =>
 (if p13 = p11 then
 (Option.bind (pair_Rel_int_string_Remove.f k p11 x1 p12.1 p12.2) fun p15 =>
 J0 D H k x0 x1 x2 p1.1.1 (!p15.1) p15.2) else none)))))))
theorem snd {x0 : (Option HA)} {x1 : Int} {x2 : (List UInt8)} {S : HS} (hD : DSound Tryz.prog base W0 D) (hH : HSound Tryz.prog base W0 β0 H)  {p : (Bool) × HS} (h : f D H k x0 x1 x2 S = some p) : HCall Tryz.prog base W0 β0 10 [(.ptr x0),(.int .i64 x1),(.str x2)] S (fun v S1 => v = (.bool p.1) ∧ S1 = p.2) := by
 unfold f at h
 refine HCall.of_run at_.at_ body ?_
 show HRun Tryz.prog base W0 β0 10 none [.code c0] ⟨[(.ptr x0),(.int .i64 x1),(.str x2),τ,τ,τ,τ,τ,τ,τ,τ,τ,τ,τ,τ,τ,τ,τ,τ,τ,τ,τ,τ,τ,τ,τ,τ,τ,τ,τ,τ,τ,τ,τ,τ,τ,τ,τ,τ,τ],[]⟩ S _
 refine qQ rfl (qR rfl rfl (qS 6 rfl (ok_assign · (.bool _)) (rE ?_)))
 try dsimp only [w0,w1,w2,w3]
 obtain ⟨p1,hp1,h⟩ := bindo h
 refine qQ rfl (qR rfl rfl (qS 10 rfl (oM · rfl) (qS 11 rfl (oM · rfl) (q_call (dst := some 12) rfl (.func _) (.cons (.tmp rfl) (.cons (.tmp rfl) Evs.nil)) (HInv.static rooms_Rooms_Get.at_ rooms_Rooms_Get.body (rooms_Rooms_Get.snd hD hH hp1)) ?_))))
 rintro _ _ ⟨rfl,rfl⟩
 refine qS 9 rfl (oM · rfl) ?_
 try dsimp only [w0,w1,w2,w3]
 refine qS 13 rfl (ok_extract · (.tmp rfl) rfl) (qS 14 rfl (ok_extract · (.tmp rfl) rfl) (qS 7 rfl (oA · rfl) (qS 8 rfl (oA · rfl) (rE ?_))))
 try dsimp only [w0,w1,w2,w3]
 refine qQ rfl (qQ rfl ?_)
 refine x_start (cls := [0,0,0,0,0,0,3,0,0,2,2,0,0]) (rk := [0,1,2,3,4,5,6,7,8,9,10,11,12]) rfl (by kernel_rfl) ?_
 refine xf 15 [8] rfl (oM · rfl) ?_
 refine xf 16 [15] rfl (ok_not · (.tmp rfl)) ?_
 refine xf 17 [16] rfl (oM · rfl) ?_
 rcases ifc h with ⟨hc2,h⟩ | ⟨hc2,h⟩
 ·refine xfs 18 17 [0,17] rfl hc2 ?_
  try dsimp only [w0,w1,w2,w3]
  refine xfs 19 17 [18,17] rfl hc2 ?_
  refine xfs 20 17 [19,17] rfl hc2 ?_
  refine x_late (r_skip (dst := some 21) (t := 17) (ts := [20,17]) rfl (by kernel_rfl) rfl rfl hc2) rfl trivial ?_
  refine xfs 22 17 [1,17] rfl hc2 ?_
  try dsimp only [w0,w1,w2,w3]
  refine xfs 23 17 [2,17] rfl hc2 ?_
  refine zes 24 17 [23,17] rfl hc2 ⟨.inr (l_skip (dst := some 21) (t := 17) (ts := [20,17]) rfl (by kernel_rfl) rfl rfl hc2),trivial⟩ ?_
  refine zes 25 17 [21,22,24,17] rfl hc2 ⟨.inl (by kernel_rfl),trivial⟩ ?_
  refine xfs 26 17 [25,17] rfl hc2 ?_
  try dsimp only [w0,w1,w2,w3]
  refine xf 27 [17,26] rfl (ok_pick_tt · (.tmp rfl) hc2 (.bool _)) ?_
  refine x_rest rfl ?_
  refine rE ?_
  try dsimp only [w0,w1,w2,w3]
  exact J0_snd hD hH h
 ·refine xfg 18 17 [0,17] rfl (bfalse hc2) (oM · rfl) ?_
  try dsimp only [w0,w1,w2,w3]
  obtain ⟨p10,hp10,h⟩ := bindo h
  refine xfg 19 17 [18,17] rfl (bfalse hc2) (oN · rfl hp10) ?_
  refine xfg 20 17 [19,17] rfl (bfalse hc2) (oF · fi83_2 (by decide) rfl rfl) ?_
  obtain ⟨p11,hp11,h⟩ := bindo h
  refine x_late (r_op_g (dst := some 21) (t := 17) (ts := [20,17]) rfl (by intro _ _ h; cases h) (by kernel_rfl) rfl rfl (bfalse hc2) (fun _ ho => ok_load_s ho sc79 (.tmp rfl) rfl (ldP_out hp11))) rfl trivial ?_
  refine xfg 22 17 [1,17] rfl (bfalse hc2) (oM · rfl) ?_
  try dsimp only [w0,w1,w2,w3]
  refine xfg 23 17 [2,17] rfl (bfalse hc2) (oM · rfl) ?_
  obtain ⟨p12,hp12,h⟩ := bindo h
  obtain ⟨p13,hp13,h⟩ := bindo h
  obtain ⟨hg14,h⟩ := gd h
  refine x_goE (e_call_g (dst := some 24) (t := 17) (ts := [23,17]) rfl (by kernel_rfl) rfl rfl (bfalse hc2) (.func _) (.cons (.tmp rfl) Evs.nil) (HInv.static fold_Text.at_ fold_Text.body (fold_Text.snd  hp12))) rfl ⟨.inr (l_op_g (dst := some 21) (t := 17) (ts := [20,17]) rfl (by intro _ _ h; cases h) (by kernel_rfl) rfl rfl (bfalse hc2) (fun _ ho => ok_load_s ho sc79 (.tmp rfl) rfl (ldP_out (hp13.trans (congrArg some hg14))))),trivial⟩ ?_
  obtain ⟨p15,hp15,h⟩ := bindo h
  refine x_goE (e_call_g (dst := some 25) (t := 17) (ts := [21,22,24,17]) rfl (by kernel_rfl) rfl rfl (bfalse hc2) (.func _) (.cons (.tmp rfl) (.cons (.tmp rfl) (.cons (.tmp rfl) Evs.nil))) (HInv.static pair_Rel_int_string_Remove.at_ pair_Rel_int_string_Remove.body (pair_Rel_int_string_Remove.snd  hp15))) rfl ⟨.inl (by kernel_rfl),trivial⟩ ?_
  refine xfg 26 17 [25,17] rfl (bfalse hc2) (ok_not · (.tmp rfl)) ?_
  try dsimp only [w0,w1,w2,w3]
  refine xf 27 [17,26] rfl (ok_pick_ff · (.tmp rfl) (bfalse hc2) (.tmp rfl)) ?_
  refine x_rest rfl ?_
  refine rE ?_
  try dsimp only [w0,w1,w2,w3]
  exact J0_snd hD hH h
end
end rooms_Rooms_Part
namespace rooms_Rooms_All_1
theorem at_ : FnAt Tryz.prog 59 Tryz.f59 := ⟨Tryz.func59,by kernel_rfl⟩
def c0 : Code := .skip
theorem body : Tryz.f59.body = some c0 := by kernel_rfl
section
variable {base : Nat} {W0 : World} {β0 : Bt}
def f (x0 : HV) : Option (Unit) :=
 some ()
theorem snd {x0 : HV} {S : HS}  {p : Unit} (h : f x0 = some p) : HCall Tryz.prog base W0 β0 59 [x0] S (fun v S1 => v = (.tup []) ∧ S1 = S) := by
 unfold f at h
 refine HCall.of_run at_.at_ body ?_
 show HRun Tryz.prog base W0 β0 59 none [.code c0] ⟨[x0,τ],[]⟩ S _
 cases h
 exact q_skipc rfl (q_end at_.at_ rfl (res0 rfl) ⟨rfl,rfl⟩)
end
end rooms_Rooms_All_1
namespace book_Book_room_Room_All_1
theorem at_ : FnAt Tryz.prog 90 Tryz.f90 := ⟨Tryz.func90,by kernel_rfl⟩
def c0 : Code := .skip
theorem body : Tryz.f90.body = some c0 := by kernel_rfl
section
variable {base : Nat} {W0 : World} {β0 : Bt}
def f (x0 : HV) : Option (Unit) :=
 some ()
theorem snd {x0 : HV} {S : HS}  {p : Unit} (h : f x0 = some p) : HCall Tryz.prog base W0 β0 90 [x0] S (fun v S1 => v = (.tup []) ∧ S1 = S) := by
 unfold f at h
 refine HCall.of_run at_.at_ body ?_
 show HRun Tryz.prog base W0 β0 90 none [.code c0] ⟨[x0,τ],[]⟩ S _
 cases h
 exact q_skipc rfl (q_end at_.at_ rfl (res0 rfl) ⟨rfl,rfl⟩)
end
end book_Book_room_Room_All_1
namespace slices_Clone_book_entry_room_Room_book_entry_room_Room
theorem at_ : FnAt Tryz.prog 92 Tryz.f92 := ⟨Tryz.func92,by kernel_rfl⟩
def d0 := (Tryz.f92.body).getD .skip
def r1 := kR (kA d0)
def r4 := kR (kA (kA (kB d0)))
def r7 := kR (kA (kA (kB (kA (kB d0)))))
def r11 := kR (kA (kB (kB d0)))
def c0 : Code := .seq (.region 0 r1 false) (.seq (.seq (.region 1 r4 false) (.cond (.tmp 4) (.seq (.region 2 r7 false) .ret) .skip)) (.seq (.region 3 r11 false) .ret))
theorem body : Tryz.f92.body = some c0 := by kernel_rfl
section
variable {base : Nat} {W0 : World} {β0 : Bt}
def f (x0 : Sl) (S : HS) : Option ((Sl) × HS) :=
 (if (Option.isNone (Sl.a x0)) = true then
 some (Sl.nil,S) else
 (letv (HS.lit S [] 2) fun p2 =>
 (Option.bind (HS.rows (p2.2) x0 2) fun p3 =>
 (Option.bind (HS.app (p2.2) (p2.1) p3 2) fun p4 =>
 some ((p4.1),(p4.2))))))
theorem snd {x0 : Sl} {S : HS}  {p : (Sl) × HS} (h : f x0 S = some p) : HCall Tryz.prog base W0 β0 92 [(Sl.hv x0)] S (fun v S1 => v = (Sl.hv p.1) ∧ S1 = p.2) := by
 unfold f at h
 refine HCall.of_run at_.at_ body ?_
 show HRun Tryz.prog base W0 β0 92 none [.code c0] ⟨[(Sl.hv x0),τ,τ,τ,τ,τ,τ,τ],[]⟩ S _
 refine qQ rfl (qR rfl rfl (qS 2 rfl (ok_assign · (.const fun _ => .slNil none)) (rE ?_)))
 try dsimp only [w0,w1,w2,w3]
 refine qQ rfl (qQ rfl (qR rfl rfl (qS 3 rfl (oM · rfl) (qS 4 rfl (ok_nil_sl · tu118 (.tmp rfl) (.inl ⟨rfl,rfl⟩)) (rE ?_)))))
 try dsimp only [w0,w1,w2,w3]
 rcases ifc h with ⟨hc1,h⟩ | ⟨hc1,h⟩
 ·refine q_cond_t rfl (.tmp rfl) hc1 (qQ rfl (qR rfl rfl (qS 2 rfl (ok_assign · (.const fun _ => .slNil none)) (rE ?_))))
  cases h
  exact q_ret rfl at_.at_ rfl (res1 rfl rfl) ⟨rfl,rfl⟩
 ·obtain ⟨p2,hp2,h⟩ := leto h
  obtain ⟨p3,hp3,h⟩ := bindo h
  obtain ⟨p4,hp4,h⟩ := bindo h
  refine q_cond_f rfl (.tmp rfl) (bfalse hc1) (q_skipc rfl (qQ rfl (qR rfl rfl (qS 5 rfl (ok_buildSlice_s (xs := []) el118 · rfl rfl (by decide) Evs.nil rfl rfl hp2) (qS 6 rfl (oM · rfl) (qS 7 rfl (ok_append (s := (p2.1)) (s1 := x0) el118 · rfl rfl ⟨_,tu118⟩ (.tmp rfl) (.tmp rfl) hp3 hp4) (qS 2 rfl (oA · rfl) (rE ?_))))))))
  cases h
  exact q_ret rfl at_.at_ rfl (res1 rfl rfl) ⟨rfl,rfl⟩
end
end slices_Clone_book_entry_room_Room_book_entry_room_Room
namespace book_told_room_Room_1
theorem at_ : FnAt Tryz.prog 119 Tryz.f119 := ⟨Tryz.func119,by kernel_rfl⟩
def d0 := (Tryz.f119.body).getD .skip
def r1 := kR (kA d0)
def d4 := kA (kA (kB d0))
def r5 := kR (kA d4)
def r13 := kR (kA (kA (kA (kB (kB d4)))))
def r15 := kR (kA (kB (kA (kA (kB (kB d4))))))
def r19 := kR (kB (kB (kB d4)))
def c4 : Code := .seq (.region 1 r5 false) (.seq (.cond (.tmp 8) .skip (.exit 0)) (.seq (.block 1 (.seq (.region 2 r13 false) (.seq (.region 3 r15 false) (.cond (.tmp 17) .ret .skip)))) (.region 4 r19 false)))
def c0 : Code := .seq (.region 0 r1 false) (.block 0 (.loop c4))
theorem body : Tryz.f119.body = some c0 := by kernel_rfl
section
variable {base : Nat} {W0 : World} {β0 : Bt}
def L0 (D : Dp) (H : Hd) (k : Nat) : Nat → HV → Sl → Int → Int → HS → Option ((Unit) × HS)
 | 0,_,_,_,_,_ => none
 | n + 1,y0,y5,y6,y7,S =>
  (if y7 < y6 then
  (Option.bind (HS.idx S y5 y7 2) fun p4 =>
  (Option.bind (HS.ldS S (HA.fld p4 0)) fun p5 =>
  (Option.bind (HS.ldP S (HA.fld p4 1)) fun p6 =>
  (letv (HS.new S (.cells 2 [[(.str []),(.ptr none)]] true)) fun p7 =>
  (Option.bind (HS.sets p7 (HA.cell0 S.next) [(.str p5),(.ptr p6)]) fun p8 =>
  (Option.bind (HS.ldS p8 (HA.fld (HA.cell0 S.next) 0)) fun p9 =>
  (Option.bind (HS.ldP p8 (HA.fld (HA.cell0 S.next) 1)) fun p10 =>
  (Option.bind (D H y0 [(.str p9),(.ptr p10)] p8) fun p11 =>
  (Option.bind (dB p11.1) fun p12 =>
  (if (!p12) = true then
  some ((),p11.2) else
  (L0 D H k n) y0 y5 y6 (w64 (y7 + 1)) p11.2)))))))))) else
  some ((),S))
theorem L0_snd (hD : DSound Tryz.prog base W0 D) (hH : HSound Tryz.prog base W0 β0 H)  : ∀ {n : Nat} ⦃y0 : HV⦄ ⦃y5 : Sl⦄ ⦃y6 : Int⦄ ⦃y7 : Int⦄ ⦃S : HS⦄ ⦃p : (Unit) × HS⦄ ⦃Gb Gc Gd Ge Gi Gj Gk Gl Gm Gn Go Gp Gq Gr Gs : HV⦄,L0 D H k n y0 y5 y6 y7 S = some p → HRun Tryz.prog base W0 β0 119 none [.inLoop c4,.inBlock 0] ⟨[y0,Gb,Gc,Gd,Ge,(Sl.hv y5),(.int .i64 y6),(.int .i64 y7),Gi,Gj,Gk,Gl,Gm,Gn,Go,Gp,Gq,Gr,Gs],[]⟩ S (fun v S1 => v = (.tup []) ∧ S1 = p.2) := by
 intro n
 induction n with
 | zero => intro _ _ _ _ _ _ _ _ _ _ _ _ _ _ _ _ _ _ _ _ _ h; cases h
 | succ n ih =>
  intro y0 y5 y6 y7 S p Gb Gc Gd Ge Gi Gj Gk Gl Gm Gn Go Gp Gq Gr Gs h
  simp only [L0] at h
  refine hr_inLoop (qQ rfl (qR rfl rfl (qS 8 rfl (oB · rfl rfl rfl) (rE ?_))))
  try dsimp only [w0,w1,w2,w3]
  refine qQ rfl ?_
  rcases ifc h with ⟨hc3,h⟩ | ⟨hc3,h⟩
  ·obtain ⟨p4,hp4,h⟩ := bindo h
   obtain ⟨p5,hp5,h⟩ := bindo h
   obtain ⟨p6,hp6,h⟩ := bindo h
   obtain ⟨p7,hp7,h⟩ := leto h
   obtain ⟨p8,hp8,h⟩ := bindo h
   refine q_cond_t rfl (.tmp rfl) (decide_eq_true hc3) (q_skipc rfl (qQ rfl (q_block rfl (qQ rfl (qR rfl rfl (qS 9 rfl (oX (s := y5) · tu118 sz133 rfl rfl hp4) (qS 10 rfl (ok_load_a (vs := [(.str p5),(.ptr p6)]) · ia133 (.tmp rfl) rfl ⟨ldS_out hp5,ldP_out hp6,trivial⟩ (by simp)) (qS 4 rfl (ok_alloc_e · zi133 zr133 (by decide) rfl hp7) (qN rfl (ok_store_s (v := (.agg [(.str p5),(.ptr p6)])) · sz133 (.tmp rfl) rfl (.tmp rfl) rfl hp8) (rE ?_))))))))))
   try dsimp only [w0,w1,w2,w3]
   obtain ⟨p9,hp9,h⟩ := bindo h
   refine qQ rfl (qR rfl rfl (qS 11 rfl (oM · rfl) (qS 12 rfl (oF · fi133_0 (by decide) rfl rfl) (qS 13 rfl (oL · sc9 rfl rfl (ldS_out hp9)) (qS 14 rfl (oF · fi133_1 (by decide) rfl rfl) ?_)))))
   try dsimp only [w0,w1,w2,w3]
   obtain ⟨p10,hp10,h⟩ := bindo h
   obtain ⟨p11,hp11,h⟩ := bindo h
   obtain ⟨p12,hp12,h⟩ := bindo h
   refine qS 15 rfl (oL · sc36 rfl rfl (ldP_out hp10)) (q_call (dst := some 16) rfl (.tmp rfl) (.cons (.tmp rfl) (.cons (.tmp rfl) Evs.nil)) (hD _ _ hH _ _ _ _ _ hp11) ?_)
   rintro _ _ ⟨rfl,rfl⟩
   rw [dB_out hp12]
   refine qS 17 rfl (ok_not · (.tmp rfl)) (rE ?_)
   try dsimp only [w0,w1,w2,w3]
   rcases ifc h with ⟨hc13,h⟩ | ⟨hc13,h⟩
   ·cases h
    exact q_cond_t rfl (.tmp rfl) hc13 (q_ret rfl at_.at_ rfl (res0 rfl) ⟨rfl,rfl⟩)
   ·refine q_cond_f rfl (.tmp rfl) (bfalse hc13) (q_skipc rfl (hr_inBlock (qR rfl rfl (qS 18 rfl (oC · rfl rfl) (qS 7 rfl (oM · rfl) (rE ?_))))))
    try dsimp only [w0,w1,w2,w3]
    exact ih h
  ·cases h
   exact q_cond_f rfl (.tmp rfl) (decide_eq_false hc3) (q_exit rfl rfl (q_end at_.at_ rfl (res0 rfl) ⟨rfl,rfl⟩))
def f (D : Dp) (H : Hd) (k : Nat) (x0 : HV) (x1 : (Option HA)) (S : HS) : Option ((Unit) × HS) :=
 (Option.bind (x1) fun p1 =>
 (Option.bind (HS.ldSl S p1) fun p2 =>
 L0 D H k k x0 p2 (Sl.len p2 : Int) 0 S))
theorem snd {x0 : HV} {x1 : (Option HA)} {S : HS} (hD : DSound Tryz.prog base W0 D) (hH : HSound Tryz.prog base W0 β0 H)  {p : (Unit) × HS} (h : f D H k x0 x1 S = some p) : HCall Tryz.prog base W0 β0 119 [x0,(.ptr x1)] S (fun v S1 => v = (.tup []) ∧ S1 = p.2) := by
 unfold f at h
 refine HCall.of_run at_.at_ body ?_
 show HRun Tryz.prog base W0 β0 119 none [.code c0] ⟨[x0,(.ptr x1),τ,τ,τ,τ,τ,τ,τ,τ,τ,τ,τ,τ,τ,τ,τ,τ,τ],[]⟩ S _
 obtain ⟨p1,hp1,h⟩ := bindo h
 obtain ⟨p2,hp2,h⟩ := bindo h
 refine qQ rfl (qR rfl rfl (qS 5 rfl (oL · sc118 rfl hp1 (ldSl_out hp2)) (qS 6 rfl (ok_len_sl (q := Sl.a p2) (n := Sl.len p2) (z := Sl.cap p2) · rfl tu118 (.tmp rfl)) (qS 7 rfl (ok_move · (.int _ _)) (rE ?_)))))
 try dsimp only [w0,w1,w2,w3]
 refine q_block rfl (q_loop rfl ?_)
 try dsimp only [w0,w1,w2,w3]
 exact L0_snd hD hH h
end
end book_told_room_Room_1
namespace book_told_room_Room
theorem at_ : FnAt Tryz.prog 91 Tryz.f91 := ⟨Tryz.func91,by kernel_rfl⟩
def d0 := (Tryz.f91.body).getD .skip
def r1 := kR (kA d0)
def r3 := kR (kA (kB d0))
def c0 : Code := .seq (.region 0 r1 false) (.seq (.region 1 r3 false) .ret)
theorem body : Tryz.f91.body = some c0 := by kernel_rfl
section
variable {base : Nat} {W0 : World} {β0 : Bt}
def f (x0 : Sl) (S : HS) : Option ((HV) × HS) :=
 (letv (HS.new S (.cells 1 [[(Sl.hv x0)]] true)) fun p1 =>
 some ((HV.fn (.func 119) [] [(.ptr (some (HA.cell0 S.next)))]),p1))
theorem snd {x0 : Sl} {S : HS}  {p : (HV) × HS} (h : f x0 S = some p) : HCall Tryz.prog base W0 β0 91 [(Sl.hv x0)] S (fun v S1 => v = p.1 ∧ S1 = p.2) := by
 unfold f at h
 refine HCall.of_run at_.at_ body ?_
 show HRun Tryz.prog base W0 β0 91 none [.code c0] ⟨[(Sl.hv x0),τ,τ,τ],[]⟩ S _
 obtain ⟨p1,hp1,h⟩ := leto h
 refine qQ rfl (qR rfl rfl (qS 1 rfl (ok_box_e · (.tmp rfl) (Nat.zero_lt_succ _) rfl hp1) (qS 2 rfl (ok_assign · (.const fun _ => .nilFn)) (rE ?_))))
 try dsimp only [w0,w1,w2,w3]
 refine qQ rfl (qR rfl rfl (qS 3 rfl (ok_makeFunc · Evs.nil (.cons (.tmp rfl) Evs.nil)) (qS 2 rfl (oA · rfl) (rE ?_))))
 cases h
 exact q_ret rfl at_.at_ rfl (res1 rfl rfl) ⟨rfl,rfl⟩
end
end book_told_room_Room
namespace book_Book_room_Room_All
theorem at_ : FnAt Tryz.prog 60 Tryz.f60 := ⟨Tryz.func60,by kernel_rfl⟩
def d0 := (Tryz.f60.body).getD .skip
def r1 := kR (kA d0)
def r4 := kR (kA (kA (kB d0)))
def r7 := kR (kA (kA (kB (kA (kB d0)))))
def r11 := kR (kA (kB (kB d0)))
def c0 : Code := .seq (.region 0 r1 false) (.seq (.seq (.region 1 r4 false) (.cond (.tmp 4) (.seq (.region 2 r7 false) .ret) .skip)) (.seq (.region 3 r11 false) .ret))
theorem body : Tryz.f60.body = some c0 := by kernel_rfl
section
variable {base : Nat} {W0 : World} {β0 : Bt}
def f (x0 : (Option HA)) (S : HS) : Option ((HV) × HS) :=
 (if (Option.isNone x0) = true then
 some ((HV.fn (.func 90) [] []),S) else
 (Option.bind (x0) fun p2 =>
 (Option.bind (HS.ldSl S (HA.fld p2 1)) fun p3 =>
 (Option.bind (slices_Clone_book_entry_room_Room_book_entry_room_Room.f p3 S) fun p4 =>
 (Option.bind (book_told_room_Room.f p4.1 p4.2) fun p5 =>
 some (p5.1,p5.2))))))
theorem snd {x0 : (Option HA)} {S : HS}  {p : (HV) × HS} (h : f x0 S = some p) : HCall Tryz.prog base W0 β0 60 [(.ptr x0)] S (fun v S1 => v = p.1 ∧ S1 = p.2) := by
 unfold f at h
 refine HCall.of_run at_.at_ body ?_
 show HRun Tryz.prog base W0 β0 60 none [.code c0] ⟨[(.ptr x0),τ,τ,τ,τ,τ,τ,τ,τ,τ,τ],[]⟩ S _
 refine qQ rfl (qR rfl rfl (qS 2 rfl (ok_assign · (.const fun _ => .nilFn)) (rE ?_)))
 try dsimp only [w0,w1,w2,w3]
 refine qQ rfl (qQ rfl (qR rfl rfl (qS 3 rfl (oM · rfl) (qS 4 rfl (ok_nil_ptr · tu75 (.tmp rfl) (.inl ⟨rfl,rfl⟩)) (rE ?_)))))
 try dsimp only [w0,w1,w2,w3]
 rcases ifc h with ⟨hc1,h⟩ | ⟨hc1,h⟩
 ·refine q_cond_t rfl (.tmp rfl) hc1 (qQ rfl (qR rfl rfl (qS 2 rfl (ok_assign · (.func _)) (rE ?_))))
  cases h
  exact q_ret rfl at_.at_ rfl (res1 rfl rfl) ⟨rfl,rfl⟩
 ·obtain ⟨p2,hp2,h⟩ := bindo h
  obtain ⟨p3,hp3,h⟩ := bindo h
  refine q_cond_f rfl (.tmp rfl) (bfalse hc1) (q_skipc rfl (qQ rfl (qR rfl rfl (qS 5 rfl (oM · rfl) (qS 6 rfl (oN · rfl hp2) (qS 7 rfl (oF · fi120_1 (by decide) rfl rfl) (qS 8 rfl (oL · sc118 rfl rfl (ldSl_out hp3)) ?_)))))))
  try dsimp only [w0,w1,w2,w3]
  obtain ⟨p4,hp4,h⟩ := bindo h
  refine q_call (dst := some 9) rfl (.func _) (.cons (.tmp rfl) Evs.nil) (HInv.static slices_Clone_book_entry_room_Room_book_entry_room_Room.at_ slices_Clone_book_entry_room_Room_book_entry_room_Room.body (slices_Clone_book_entry_room_Room_book_entry_room_Room.snd  hp4)) ?_
  rintro _ _ ⟨rfl,rfl⟩
  obtain ⟨p5,hp5,h⟩ := bindo h
  refine q_call (dst := some 10) rfl (.func _) (.cons (.tmp rfl) Evs.nil) (HInv.static book_told_room_Room.at_ book_told_room_Room.body (book_told_room_Room.snd  hp5)) ?_
  rintro _ _ ⟨rfl,rfl⟩
  refine qS 2 rfl (oA · rfl) (rE ?_)
  cases h
  exact q_ret rfl at_.at_ rfl (res1 rfl rfl) ⟨rfl,rfl⟩
end
end book_Book_room_Room_All
namespace rooms_Rooms_All_2
theorem at_ : FnAt Tryz.prog 61 Tryz.f61 := ⟨Tryz.func61,by kernel_rfl⟩
def d0 := (Tryz.f61.body).getD .skip
def r1 := kR (kA d0)
def r3 := kR (kA (kB d0))
def r6 := kR (kA (kA (kB (kB d0))))
def r9 := kR (kA (kA (kB (kA (kB (kB d0))))))
def c7 : Code := .block 1 (.seq (.region 3 r9 false) (.cond (.tmp 11) .ret .skip))
def c6 : Code := .region 2 r6 false
def c0 : Code := .seq (.region 0 r1 false) (.seq (.region 1 r3 false) (.block 0 (.rangeFunc (.tmp 5) #[6,7] c6 c7)))
theorem body : Tryz.f61.body = some c0 := by kernel_rfl
section
variable {base : Nat} {W0 : World} {β0 : Bt}
def J0 (D : Dp) (H : Hd) (l : Nat) (y2 : (Option HA)) (y7 : (Option HA)) (S : HS) : Option (HV × HS) :=
 (Option.bind (HS.begin_ S l) fun p5 =>
 (Option.bind (y2) fun p6 =>
 (Option.bind (HS.ldF p5 p6) fun p7 =>
 (Option.bind (D H p7 [(.ptr y7)] p5) fun p8 =>
 (Option.bind (dB p8.1) fun p9 =>
 (if (!p9) = true then
 (HS.endr p8.2 l (some .ret)) else
 (HS.endr p8.2 l none)))))))
theorem J0_snd {l : Nat} (hD : DSound Tryz.prog base W0 D) (hH : HSound Tryz.prog base W0 β0 H)  {y2 : (Option HA)} {y7 : (Option HA)} {S : HS} {p : HV × HS} (h : J0 D H l y2 y7 S = some p) : HRun Tryz.prog base W0 β0 61 (some l) [.code c6,.beginRound,.code c7] ⟨[Ga,Gb,(.ptr y2),Gd,Ge,Gf,Gg,(.ptr y7),Gi,Gj,Gk,Gl],[]⟩ S (fun v S1 => v = p.1 ∧ S1 = p.2) := by
 unfold J0 at h
 refine qR rfl rfl (qS 4 rfl (oA · rfl) (rE ?_))
 try dsimp only [w0,w1,w2,w3]
 obtain ⟨p5,hp5,h⟩ := bindo h
 refine q_begin hp5 ?_
 obtain ⟨p6,hp6,h⟩ := bindo h
 obtain ⟨p7,hp7,h⟩ := bindo h
 obtain ⟨p8,hp8,h⟩ := bindo h
 obtain ⟨p9,hp9,h⟩ := bindo h
 refine q_block rfl (qQ rfl (qR rfl rfl (qS 8 rfl (oL · sc105 rfl hp6 (ldF_out hp7)) (qS 9 rfl (oM · rfl) (q_call (dst := some 10) rfl (.tmp rfl) (.cons (.tmp rfl) Evs.nil) (hD _ _ hH _ _ _ _ _ hp8) ?_)))))
 rintro _ _ ⟨rfl,rfl⟩
 rw [dB_out hp9]
 refine qS 11 rfl (ok_not · (.tmp rfl)) (rE ?_)
 try dsimp only [w0,w1,w2,w3]
 rcases ifc h with ⟨hc10,h⟩ | ⟨hc10,h⟩
 ·refine q_cond_t rfl (.tmp rfl) hc10 ?_
  exact q_round_ret rfl h ⟨rfl,rfl⟩
 ·refine q_cond_f rfl (.tmp rfl) (bfalse hc10) (q_skipc rfl (hr_inBlock ?_))
  exact q_round_end h ⟨rfl,rfl⟩
def f (D : Dp) (H : Hd) (x0 : HV) (x1 : (Option HA)) (S : HS) : Option ((Unit) × HS) :=
 (Option.bind (dF x0) fun p1 =>
 (letv (HS.new S (.cells 1 [[p1]] true)) fun p2 =>
 (Option.bind (x1) fun p3 =>
 (Option.bind (HS.ldF p2 p3) fun p4 =>
 (Option.bind (D (Hd.set H (HS.next p2 + 1) fun vs T =>
 (Option.bind (HS.lp T (HS.next p2 + 1)) fun u14 =>
 (Option.bind (args2 vs) fun ar11 =>
 (Option.bind (dS ar11.1) fun p12 =>
 (Option.bind (dP ar11.2) fun p13 =>
 (J0 D H (HS.next p2 + 1) (some (HA.cell0 S.next)) p13 T)))))) p4 [.fn (.yield (HS.next p2 + 1)) [] []] (HS.new (HS.new p2 .defer) (.loop .ready none))) fun p15 =>
 (Option.bind (HS.finish p15.2 (HS.next p2 + 1)) fun p16 =>
 (Option.bind (pcode p16.1) fun n17 =>
 (if n17 = 0 then
 (Option.bind (HS.leave p16.2 (HS.next p2 :: [])) fun p19 =>
 some ((),p19)) else
 (if n17 = 1 then
 (Option.bind (HS.leave p16.2 (HS.next p2 :: [])) fun p21 =>
 some ((),p21)) else
 none)))))))))
theorem snd {x0 : HV} {x1 : (Option HA)} {S : HS} (hD : DSound Tryz.prog base W0 D) (hH : HSound Tryz.prog base W0 β0 H)  {p : (Unit) × HS} (h : f D H x0 x1 S = some p) : HCall Tryz.prog base W0 β0 61 [x0,(.ptr x1)] S (fun v S1 => v = (.tup []) ∧ S1 = p.2) := by
 unfold f at h
 refine HCall.of_run at_.at_ body ?_
 show HRun Tryz.prog base W0 β0 61 none [.code c0] ⟨[x0,(.ptr x1),τ,τ,τ,τ,τ,τ,τ,τ,τ,τ],[]⟩ S _
 obtain ⟨p1,hp1,h⟩ := bindo h
 obtain ⟨p2,hp2,h⟩ := leto h
 refine qQ rfl (qR rfl rfl (qS 2 rfl (ok_box_fn · (.tmp rfl) hp1 hp2) (rE ?_)))
 try dsimp only [w0,w1,w2,w3]
 obtain ⟨p3,hp3,h⟩ := bindo h
 obtain ⟨p4,hp4,h⟩ := bindo h
 refine qQ rfl (qR rfl rfl (qS 5 rfl (oL · sc107 rfl hp3 (ldF_out hp4)) (rE ?_)))
 try dsimp only [w0,w1,w2,w3]
 obtain ⟨p15,hp15,h⟩ := bindo h
 obtain ⟨p16,hp16,h⟩ := bindo h
 obtain ⟨n17,hn17,h⟩ := bindo h
 refine q_block rfl ?_
 refine q_range (D := D) (H := H) rfl (.tmp rfl) hD hH hp15 hp16 ?_ ?_
 ·intro β1 hle hLA vs T u T' hr
  obtain ⟨u14,hu14,hr⟩ := bindo hr
  obtain ⟨ar11,har11,hr⟩ := bindo hr
  obtain ⟨p12,hp12,hr⟩ := bindo hr
  obtain ⟨p13,hp13,hr⟩ := bindo hr
  rw [args2_out har11]
  refine q_yield2 hLA hu14 rfl rfl ?_
  rw [dS_out hp12,dP_out hp13]
  simp only [HAct.params,List.set_cons_zero,List.set_cons_succ]
  exact J0_snd hD (hH.up hle) hr
 ·rcases ifc h with ⟨hc18,h⟩ | ⟨hc18,h⟩
  ·rw [pcode0 hn17 hc18]
   simp only [jumped_none,jumped_some]
   obtain ⟨p19,hp19,h⟩ := bindo h
   cases h
   exact hr_inBlock (q_end at_.at_ hp19 (res0 rfl) ⟨rfl,rfl⟩)
  ·rcases ifc h with ⟨hc20,h⟩ | ⟨hc20,h⟩
   ·rw [pcode1 hn17 hc20]
    simp only [jumped_none,jumped_some]
    obtain ⟨p21,hp21,h⟩ := bindo h
    cases h
    exact q_ret rfl at_.at_ hp21 (res0 rfl) ⟨rfl,rfl⟩
   ·cases h
end
end rooms_Rooms_All_2
namespace rooms_Rooms_All
theorem at_ : FnAt Tryz.prog 21 Tryz.f21 := ⟨Tryz.func21,by kernel_rfl⟩
def d0 := (Tryz.f21.body).getD .skip
def r1 := kR (kA d0)
def r4 := kR (kA (kA (kB d0)))
def r7 := kR (kA (kA (kB (kA (kB d0)))))
def r11 := kR (kA (kB (kB d0)))
def r13 := kR (kA (kB (kB (kB d0))))
def c0 : Code := .seq (.region 0 r1 false) (.seq (.seq (.region 1 r4 false) (.cond (.tmp 5) (.seq (.region 2 r7 false) .ret) .skip)) (.seq (.region 3 r11 false) (.seq (.region 4 r13 false) .ret)))
theorem body : Tryz.f21.body = some c0 := by kernel_rfl
section
variable {base : Nat} {W0 : World} {β0 : Bt}
def f (x0 : (Option HA)) (S : HS) : Option ((HV) × HS) :=
 (if (Option.isNone x0) = true then
 some ((HV.fn (.func 59) [] []),S) else
 (Option.bind (x0) fun p2 =>
 (Option.bind (HS.ldP S (HA.fld p2 15)) fun p3 =>
 (Option.bind (book_Book_room_Room_All.f p3 S) fun p4 =>
 (letv (HS.new p4.2 (.cells 1 [[.nilFn]] true)) fun p5 =>
 (Option.bind (dF p4.1) fun p6 =>
 (Option.bind (HS.sets p5 (HA.cell0 p4.2.next) [p6]) fun p7 =>
 some ((HV.fn (.func 61) [] [(.ptr (some (HA.cell0 p4.2.next)))]),p7))))))))
theorem snd {x0 : (Option HA)} {S : HS}  {p : (HV) × HS} (h : f x0 S = some p) : HCall Tryz.prog base W0 β0 21 [(.ptr x0)] S (fun v S1 => v = p.1 ∧ S1 = p.2) := by
 unfold f at h
 refine HCall.of_run at_.at_ body ?_
 show HRun Tryz.prog base W0 β0 21 none [.code c0] ⟨[(.ptr x0),τ,τ,τ,τ,τ,τ,τ,τ,τ,τ,τ],[]⟩ S _
 refine qQ rfl (qR rfl rfl (qS 2 rfl (ok_assign · (.const fun _ => .nilFn)) (rE ?_)))
 try dsimp only [w0,w1,w2,w3]
 refine qQ rfl (qQ rfl (qR rfl rfl (qS 4 rfl (oM · rfl) (qS 5 rfl (ok_nil_ptr · tu25 (.tmp rfl) (.inl ⟨rfl,rfl⟩)) (rE ?_)))))
 try dsimp only [w0,w1,w2,w3]
 rcases ifc h with ⟨hc1,h⟩ | ⟨hc1,h⟩
 ·refine q_cond_t rfl (.tmp rfl) hc1 (qQ rfl (qR rfl rfl (qS 2 rfl (ok_assign · (.func _)) (rE ?_))))
  cases h
  exact q_ret rfl at_.at_ rfl (res1 rfl rfl) ⟨rfl,rfl⟩
 ·obtain ⟨p2,hp2,h⟩ := bindo h
  obtain ⟨p3,hp3,h⟩ := bindo h
  refine q_cond_f rfl (.tmp rfl) (bfalse hc1) (q_skipc rfl (qQ rfl (qR rfl rfl (qS 6 rfl (oM · rfl) (qS 7 rfl (oN · rfl hp2) (qS 8 rfl (oF · fi83_1 (by decide) rfl rfl) (qS 9 rfl (oL · sc75 rfl rfl (ldP_out hp3)) ?_)))))))
  try dsimp only [w0,w1,w2,w3]
  obtain ⟨p4,hp4,h⟩ := bindo h
  refine q_call (dst := some 10) rfl (.func _) (.cons (.tmp rfl) Evs.nil) (HInv.static book_Book_room_Room_All.at_ book_Book_room_Room_All.body (book_Book_room_Room_All.snd  hp4)) ?_
  rintro _ _ ⟨rfl,rfl⟩
  obtain ⟨p5,hp5,h⟩ := leto h
  obtain ⟨p6,hp6,h⟩ := bindo h
  obtain ⟨p7,hp7,h⟩ := bindo h
  refine qS 3 rfl (ok_alloc_e · zi107 zr107 (by decide) rfl hp5) (qN rfl (ok_store_fn · sz107 (.tmp rfl) rfl (.tmp rfl) hp6 hp7) (rE ?_))
  try dsimp only [w0,w1,w2,w3]
  refine qQ rfl (qR rfl rfl (qS 11 rfl (ok_makeFunc · Evs.nil (.cons (.tmp rfl) Evs.nil)) (qS 2 rfl (oA · rfl) (rE ?_))))
  cases h
  exact q_ret rfl at_.at_ rfl (res1 rfl rfl) ⟨rfl,rfl⟩
end
end rooms_Rooms_All
namespace room_Room_Name
theorem at_ : FnAt Tryz.prog 25 Tryz.f25 := ⟨Tryz.func25,by kernel_rfl⟩
def d0 := (Tryz.f25.body).getD .skip
def r1 := kR (kA d0)
def r4 := kR (kA (kA (kB d0)))
def r7 := kR (kA (kA (kB (kA (kB d0)))))
def r11 := kR (kA (kB (kB d0)))
def c0 : Code := .seq (.region 0 r1 false) (.seq (.seq (.region 1 r4 false) (.cond (.tmp 4) (.seq (.region 2 r7 false) .ret) .skip)) (.seq (.region 3 r11 false) .ret))
theorem body : Tryz.f25.body = some c0 := by kernel_rfl
section
variable {base : Nat} {W0 : World} {β0 : Bt}
def f (x0 : (Option HA)) (S : HS) : Option (((List UInt8)) × HS) :=
 (if (Option.isNone x0) = true then
 some (([] : List UInt8),S) else
 (Option.bind (x0) fun p2 =>
 (Option.bind (HS.ldS S (HA.fld p2 0)) fun p3 =>
 some (p3,S))))
theorem snd {x0 : (Option HA)} {S : HS}  {p : ((List UInt8)) × HS} (h : f x0 S = some p) : HCall Tryz.prog base W0 β0 25 [(.ptr x0)] S (fun v S1 => v = (.str p.1) ∧ S1 = p.2) := by
 unfold f at h
 refine HCall.of_run at_.at_ body ?_
 show HRun Tryz.prog base W0 β0 25 none [.code c0] ⟨[(.ptr x0),τ,τ,τ,τ,τ,τ,τ,τ],[]⟩ S _
 refine qQ rfl (qR rfl rfl (qS 2 rfl (ok_assign · (.str _)) (rE ?_)))
 try dsimp only [w0,w1,w2,w3]
 refine qQ rfl (qQ rfl (qR rfl rfl (qS 3 rfl (oM · rfl) (qS 4 rfl (ok_nil_ptr · tu36 (.tmp rfl) (.inl ⟨rfl,rfl⟩)) (rE ?_)))))
 try dsimp only [w0,w1,w2,w3]
 rcases ifc h with ⟨hc1,h⟩ | ⟨hc1,h⟩
 ·refine q_cond_t rfl (.tmp rfl) hc1 (qQ rfl (qR rfl rfl (qS 2 rfl (ok_assign · (.str _)) (rE ?_))))
  cases h
  exact q_ret rfl at_.at_ rfl (res1 rfl rfl) ⟨rfl,rfl⟩
 ·obtain ⟨p2,hp2,h⟩ := bindo h
  obtain ⟨p3,hp3,h⟩ := bindo h
  refine q_cond_f rfl (.tmp rfl) (bfalse hc1) (q_skipc rfl (qQ rfl (qR rfl rfl (qS 5 rfl (oM · rfl) (qS 6 rfl (oN · rfl hp2) (qS 7 rfl (oF · fi114_0 (by decide) rfl rfl) (qS 8 rfl (oL · sc9 rfl rfl (ldS_out hp3)) ?_)))))))
  try dsimp only [w0,w1,w2,w3]
  refine qS 2 rfl (oA · rfl) (rE ?_)
  cases h
  exact q_ret rfl at_.at_ rfl (res1 rfl rfl) ⟨rfl,rfl⟩
end
end room_Room_Name
namespace rollcallref01_Byte
theorem at_ : FnAt Tryz.prog 95 Tryz.f95 := ⟨Tryz.func95,by kernel_rfl⟩
def d0 := (Tryz.f95.body).getD .skip
def r1 := kR (kA d0)
def r3 := kR (kA (kB d0))
def r5 := kR (kA (kB (kB d0)))
def d6 := kB (kB (kB d0))
def r8 := kR (kA (kA d6))
def d10 := kA (kB (kA d6))
def r13 := kR (kA (kA (kA d10)))
def r20 := kR (kA (kA (kA (kB (kA d10)))))
def r23 := kR (kA (kA (kB (kA (kA (kB (kA d10)))))))
def r26 := kR (kB (kB (kA d10)))
def r28 := kR (kA (kB d6))
def c27 : Code := .seq (.region 8 r28 false) .ret
def c11 : Code := .seq (.seq (.region 4 r13 false) (.cond (.tmp 9) .skip (.exit 0))) (.seq (.block 1 (.seq (.region 6 r20 false) (.cond (.tmp 16) (.seq (.region 7 r23 false) .ret) .skip))) (.region 5 r26 false))
def c0 : Code := .seq (.region 0 r1 false) (.seq (.region 1 r3 false) (.seq (.region 2 r5 false) (.seq (.seq (.region 3 r8 false) (.block 0 (.loop c11))) c27)))
theorem body : Tryz.f95.body = some c0 := by kernel_rfl
section
variable {base : Nat} {W0 : World} {β0 : Bt}
def L0 (k : Nat) : Nat → Int → (List UInt8) → (List UInt8) → Int → Option (Int)
 | 0,_,_,_,_ => none
 | n + 1,y0,y3,y4,y5 =>
  (if y5 < (List.length y3 : Int) then
  (Option.bind (sat y3 y5) fun p2 =>
  (if (UInt8.toNat p2 : Int) = y0 then
  (Option.bind (sat y4 y5) fun p4 =>
  some (UInt8.toNat p4 : Int)) else
  (L0 k n) y0 y3 y4 (w64 (y5 + 1)))) else
  some y0)
theorem L0_snd  : ∀ {n : Nat} ⦃y0 : Int⦄ ⦃y3 : (List UInt8)⦄ ⦃y4 : (List UInt8)⦄ ⦃y5 : Int⦄ ⦃S : HS⦄ ⦃p : Int⦄ ⦃Gb Gc Gg Gh Gi Gj Gk Gl Gm Gn Go Gp Gq Gr Gs Gt Gu : HV⦄,L0 k n y0 y3 y4 y5 = some p → HRun Tryz.prog base W0 β0 95 none [.inLoop c11,.inBlock 0,.code c27] ⟨[(.int .u8 y0),Gb,Gc,(.str y3),(.str y4),(.int .i64 y5),Gg,Gh,Gi,Gj,Gk,Gl,Gm,Gn,Go,Gp,Gq,Gr,Gs,Gt,Gu],[]⟩ S (fun v S1 => v = (.int .u8 p) ∧ S1 = S) := by
 intro n
 induction n with
 | zero => intro _ _ _ _ _ _ _ _ _ _ _ _ _ _ _ _ _ _ _ _ _ _ _ h; cases h
 | succ n ih =>
  intro y0 y3 y4 y5 S p Gb Gc Gg Gh Gi Gj Gk Gl Gm Gn Go Gp Gq Gr Gs Gt Gu h
  simp only [L0] at h
  refine hr_inLoop (qQ rfl (qQ rfl (qR rfl rfl (qS 6 rfl (oM · rfl) (qS 7 rfl (oM · rfl) (qS 8 rfl (ok_len_str · rfl tu9 (.tmp rfl)) (qS 9 rfl (oB · rfl rfl rfl) (rE ?_))))))))
  try dsimp only [w0,w1,w2,w3]
  rcases ifc h with ⟨hc1,h⟩ | ⟨hc1,h⟩
  ·obtain ⟨p2,hp2,h⟩ := bindo h
   refine q_cond_t rfl (.tmp rfl) (decide_eq_true hc1) (q_skipc rfl (qQ rfl (q_block rfl (qQ rfl (qR rfl rfl (qS 12 rfl (oM · rfl) (qS 13 rfl (oM · rfl) (qS 14 rfl (ok_index_s · tu9 (.tmp rfl) (.tmp rfl) hp2) (qS 15 rfl (oM · rfl) ?_)))))))))
   try dsimp only [w0,w1,w2,w3]
   refine qS 16 rfl (oB · rfl rfl rfl) (rE ?_)
   try dsimp only [w0,w1,w2,w3]
   rcases ifc h with ⟨hc3,h⟩ | ⟨hc3,h⟩
   ·obtain ⟨p4,hp4,h⟩ := bindo h
    refine q_cond_t rfl (.tmp rfl) (decide_eq_true hc3) (qQ rfl (qR rfl rfl (qS 17 rfl (oM · rfl) (qS 18 rfl (oM · rfl) (qS 19 rfl (ok_index_s · tu9 (.tmp rfl) (.tmp rfl) hp4) (qS 2 rfl (oA · rfl) (rE ?_)))))))
    cases h
    exact q_ret rfl at_.at_ rfl (res1 rfl rfl) ⟨rfl,rfl⟩
   ·refine q_cond_f rfl (.tmp rfl) (decide_eq_false hc3) (q_skipc rfl (hr_inBlock (qR rfl rfl (qS 10 rfl (oM · rfl) (qS 11 rfl (oC · rfl rfl) (qS 5 rfl (oA · rfl) (rE ?_)))))))
    try dsimp only [w0,w1,w2,w3]
    exact ih h
  ·refine q_cond_f rfl (.tmp rfl) (decide_eq_false hc1) (q_exit rfl rfl (qQ rfl (qR rfl rfl (qS 20 rfl (oM · rfl) (qS 2 rfl (oA · rfl) (rE ?_))))))
   cases h
   exact q_ret rfl at_.at_ rfl (res1 rfl rfl) ⟨rfl,rfl⟩
def f (k : Nat) (x0 : Int) : Option (Int) :=
 L0 k k x0 ([65,66,67,68,69,70,71,72,73,74,75,76,77,78,79,80,81,82,83,84,85,86,87,88,89,90,91,93,92,126] : List UInt8) ([97,98,99,100,101,102,103,104,105,106,107,108,109,110,111,112,113,114,115,116,117,118,119,120,121,122,123,125,124,94] : List UInt8) 0
theorem snd {x0 : Int} {S : HS}  {p : Int} (h : f k x0 = some p) : HCall Tryz.prog base W0 β0 95 [(.int .u8 x0)] S (fun v S1 => v = (.int .u8 p) ∧ S1 = S) := by
 unfold f at h
 refine HCall.of_run at_.at_ body ?_
 show HRun Tryz.prog base W0 β0 95 none [.code c0] ⟨[(.int .u8 x0),τ,τ,τ,τ,τ,τ,τ,τ,τ,τ,τ,τ,τ,τ,τ,τ,τ,τ,τ,τ],[]⟩ S _
 refine qQ rfl (qR rfl rfl (qS 2 rfl (ok_assign · (.int _ _)) (rE ?_)))
 try dsimp only [w0,w1,w2,w3]
 refine qQ rfl (qR rfl rfl (qS 3 rfl (ok_assign · (.str _)) (rE ?_)))
 try dsimp only [w0,w1,w2,w3]
 refine qQ rfl (qR rfl rfl (qS 4 rfl (ok_assign · (.str _)) (rE ?_)))
 try dsimp only [w0,w1,w2,w3]
 refine qQ rfl (qQ rfl (qR rfl rfl (qS 5 rfl (ok_assign · (.int _ _)) (rE ?_))))
 try dsimp only [w0,w1,w2,w3]
 refine q_block rfl (q_loop rfl ?_)
 try dsimp only [w0,w1,w2,w3]
 exact L0_snd  h
end
end rollcallref01_Byte
namespace rollcallref01_Text
theorem at_ : FnAt Tryz.prog 64 Tryz.f64 := ⟨Tryz.func64,by kernel_rfl⟩
def d0 := (Tryz.f64.body).getD .skip
def r1 := kR (kA d0)
def r3 := kR (kA (kB d0))
def d5 := kA (kB (kB d0))
def r6 := kR (kA d5)
def r11 := kR (kA (kA (kA (kA (kB d5)))))
def r17 := kR (kA (kA (kB (kA (kA (kB d5))))))
def r18 := kR (kB (kB (kA (kA (kB d5)))))
def r20 := kR (kA (kB (kB (kB d0))))
def c19 : Code := .seq (.region 6 r20 false) .ret
def c9 : Code := .seq (.seq (.region 3 r11 false) (.cond (.tmp 8) .skip (.exit 0))) (.seq (.block 1 (.region 5 r17 false)) (.region 4 r18 false))
def c0 : Code := .seq (.region 0 r1 false) (.seq (.region 1 r3 false) (.seq (.seq (.region 2 r6 false) (.block 0 (.loop c9))) c19))
theorem body : Tryz.f64.body = some c0 := by kernel_rfl
section
variable {base : Nat} {W0 : World} {β0 : Bt}
def L0 (k : Nat) : Nat → (List UInt8) → (List UInt8) → Int → HS → Option (((List UInt8)) × HS)
 | 0,_,_,_,_ => none
 | n + 1,y0,y3,y4,S =>
  (if y4 < (List.length y0 : Int) then
  (Option.bind (sat y0 y4) fun p2 =>
  (Option.bind (rollcallref01_Byte.f k (UInt8.toNat p2 : Int)) fun p3 =>
  (letv (HS.lit S [[(.int .u8 p3)]] 1) fun p4 =>
  (Option.bind (HS.text (p4.2) (p4.1)) fun p5 =>
  (if List.length y3 + List.length p5 ≤ 9223372036854775807 then
  (L0 k n) y0 (y3 ++ p5) (w64 (y4 + 1)) (p4.2) else none))))) else
  some (y3,S))
theorem L0_snd  : ∀ {n : Nat} ⦃y0 : (List UInt8)⦄ ⦃y3 : (List UInt8)⦄ ⦃y4 : Int⦄ ⦃S : HS⦄ ⦃p : ((List UInt8)) × HS⦄ ⦃Gb Gc Gf Gg Gh Gi Gj Gk Gl Gm Gn Go Gp Gq Gr Gs Gt : HV⦄,L0 k n y0 y3 y4 S = some p → HRun Tryz.prog base W0 β0 64 none [.inLoop c9,.inBlock 0,.code c19] ⟨[(.str y0),Gb,Gc,(.str y3),(.int .i64 y4),Gf,Gg,Gh,Gi,Gj,Gk,Gl,Gm,Gn,Go,Gp,Gq,Gr,Gs,Gt],[]⟩ S (fun v S1 => v = (.str p.1) ∧ S1 = p.2) := by
 intro n
 induction n with
 | zero => intro _ _ _ _ _ _ _ _ _ _ _ _ _ _ _ _ _ _ _ _ _ _ h; cases h
 | succ n ih =>
  intro y0 y3 y4 S p Gb Gc Gf Gg Gh Gi Gj Gk Gl Gm Gn Go Gp Gq Gr Gs Gt h
  simp only [L0] at h
  refine hr_inLoop (qQ rfl (qQ rfl (qR rfl rfl (qS 5 rfl (oM · rfl) (qS 6 rfl (oM · rfl) (qS 7 rfl (ok_len_str · rfl tu9 (.tmp rfl)) (qS 8 rfl (oB · rfl rfl rfl) (rE ?_))))))))
  try dsimp only [w0,w1,w2,w3]
  rcases ifc h with ⟨hc1,h⟩ | ⟨hc1,h⟩
  ·obtain ⟨p2,hp2,h⟩ := bindo h
   refine q_cond_t rfl (.tmp rfl) (decide_eq_true hc1) (q_skipc rfl (qQ rfl (q_block rfl (qR rfl rfl (qS 11 rfl (oM · rfl) (qS 12 rfl (oM · rfl) (qS 13 rfl (oM · rfl) (qS 14 rfl (ok_index_s · tu9 (.tmp rfl) (.tmp rfl) hp2) ?_))))))))
   try dsimp only [w0,w1,w2,w3]
   obtain ⟨p3,hp3,h⟩ := bindo h
   refine q_call (dst := some 15) rfl (.func _) (.cons (.tmp rfl) Evs.nil) (HInv.static rollcallref01_Byte.at_ rollcallref01_Byte.body (rollcallref01_Byte.snd  hp3)) ?_
   rintro _ _ ⟨rfl,rfl⟩
   obtain ⟨p4,hp4,h⟩ := leto h
   obtain ⟨p5,hp5,h⟩ := bindo h
   obtain ⟨hg6,h⟩ := gd h
   refine qS 16 rfl (ok_buildSlice_s (xs := [(.tmp 15)]) el127 · rfl rfl (by decide) (.cons (.tmp rfl) Evs.nil) rfl rfl hp4) (qS 17 rfl (ok_str_of_bytes (s := (p4.1)) · tu127 tu5 tu9 (.tmp rfl) hp5) (qS 18 rfl (ok_sadd · (.tmp rfl) (.tmp rfl) hg6) ?_))
   try dsimp only [w0,w1,w2,w3]
   refine qS 3 rfl (oA · rfl) (rE ?_)
   try dsimp only [w0,w1,w2,w3]
   refine hr_inBlock (qR rfl rfl (qS 9 rfl (oM · rfl) (qS 10 rfl (oC · rfl rfl) (qS 4 rfl (oA · rfl) (rE ?_)))))
   try dsimp only [w0,w1,w2,w3]
   exact ih h
  ·refine q_cond_f rfl (.tmp rfl) (decide_eq_false hc1) (q_exit rfl rfl (qQ rfl (qR rfl rfl (qS 19 rfl (oM · rfl) (qS 2 rfl (oA · rfl) (rE ?_))))))
   cases h
   exact q_ret rfl at_.at_ rfl (res1 rfl rfl) ⟨rfl,rfl⟩
def f (k : Nat) (x0 : (List UInt8)) (S : HS) : Option (((List UInt8)) × HS) :=
 L0 k k x0 ([] : List UInt8) 0 S
theorem snd {x0 : (List UInt8)} {S : HS}  {p : ((List UInt8)) × HS} (h : f k x0 S = some p) : HCall Tryz.prog base W0 β0 64 [(.str x0)] S (fun v S1 => v = (.str p.1) ∧ S1 = p.2) := by
 unfold f at h
 refine HCall.of_run at_.at_ body ?_
 show HRun Tryz.prog base W0 β0 64 none [.code c0] ⟨[(.str x0),τ,τ,τ,τ,τ,τ,τ,τ,τ,τ,τ,τ,τ,τ,τ,τ,τ,τ,τ],[]⟩ S _
 refine qQ rfl (qR rfl rfl (qS 2 rfl (ok_assign · (.str _)) (rE ?_)))
 try dsimp only [w0,w1,w2,w3]
 refine qQ rfl (qR rfl rfl (qS 3 rfl (ok_assign · (.str _)) (rE ?_)))
 try dsimp only [w0,w1,w2,w3]
 refine qQ rfl (qQ rfl (qR rfl rfl (qS 4 rfl (ok_assign · (.int _ _)) (rE ?_))))
 try dsimp only [w0,w1,w2,w3]
 refine q_block rfl (q_loop rfl ?_)
 try dsimp only [w0,w1,w2,w3]
 exact L0_snd  h
end
end rollcallref01_Text
namespace rollcallref01_Compare
theorem at_ : FnAt Tryz.prog 24 Tryz.f24 := ⟨Tryz.func24,by kernel_rfl⟩
def d0 := (Tryz.f24.body).getD .skip
def r1 := kR (kA d0)
def r3 := kR (kA (kB d0))
def r5 := kR (kA (kB (kB d0)))
def d6 := kB (kB (kB d0))
def r8 := kR (kA (kA d6))
def r11 := kR (kA (kA (kB (kA d6))))
def r16 := kR (kA (kA (kB d6)))
def r19 := kR (kA (kA (kB (kA (kB d6)))))
def r23 := kR (kA (kB (kB d6)))
def c0 : Code := .seq (.region 0 r1 false) (.seq (.region 1 r3 false) (.seq (.region 2 r5 false) (.seq (.seq (.region 3 r8 false) (.cond (.tmp 13) (.seq (.region 4 r11 false) .ret) .skip)) (.seq (.seq (.region 5 r16 false) (.cond (.tmp 16) (.seq (.region 6 r19 false) .ret) .skip)) (.seq (.region 7 r23 false) .ret)))))
theorem body : Tryz.f24.body = some c0 := by kernel_rfl
section
variable {base : Nat} {W0 : World} {β0 : Bt}
def f (k : Nat) (x0 : (List UInt8)) (x1 : (List UInt8)) (S : HS) : Option ((Int) × HS) :=
 (Option.bind (rollcallref01_Text.f k x0 S) fun p1 =>
 (Option.bind (rollcallref01_Text.f k x1 p1.2) fun p2 =>
 (if (slt p1.1 p2.1) = true then
 some ((-1),p2.2) else
 (if (!(slt p1.1 p2.1 || decide (p1.1 = p2.1))) = true then
 some (1,p2.2) else
 some (0,p2.2)))))
theorem snd {x0 : (List UInt8)} {x1 : (List UInt8)} {S : HS}  {p : (Int) × HS} (h : f k x0 x1 S = some p) : HCall Tryz.prog base W0 β0 24 [(.str x0),(.str x1)] S (fun v S1 => v = (.int .i64 p.1) ∧ S1 = p.2) := by
 unfold f at h
 refine HCall.of_run at_.at_ body ?_
 show HRun Tryz.prog base W0 β0 24 none [.code c0] ⟨[(.str x0),(.str x1),τ,τ,τ,τ,τ,τ,τ,τ,τ,τ,τ,τ,τ,τ,τ],[]⟩ S _
 refine qQ rfl (qR rfl rfl (qS 4 rfl (ok_assign · (.int _ _)) (rE ?_)))
 try dsimp only [w0,w1,w2,w3]
 obtain ⟨p1,hp1,h⟩ := bindo h
 refine qQ rfl (qR rfl rfl (qS 7 rfl (oM · rfl) (q_call (dst := some 8) rfl (.func _) (.cons (.tmp rfl) Evs.nil) (HInv.static rollcallref01_Text.at_ rollcallref01_Text.body (rollcallref01_Text.snd  hp1)) ?_)))
 rintro _ _ ⟨rfl,rfl⟩
 refine qS 5 rfl (oA · rfl) (rE ?_)
 try dsimp only [w0,w1,w2,w3]
 obtain ⟨p2,hp2,h⟩ := bindo h
 refine qQ rfl (qR rfl rfl (qS 9 rfl (oM · rfl) (q_call (dst := some 10) rfl (.func _) (.cons (.tmp rfl) Evs.nil) (HInv.static rollcallref01_Text.at_ rollcallref01_Text.body (rollcallref01_Text.snd  hp2)) ?_)))
 rintro _ _ ⟨rfl,rfl⟩
 refine qS 6 rfl (oA · rfl) (rE ?_)
 try dsimp only [w0,w1,w2,w3]
 refine qQ rfl (qQ rfl (qR rfl rfl (qS 11 rfl (oM · rfl) (qS 12 rfl (oM · rfl) (qS 13 rfl (ok_sbin · (.tmp rfl) (.tmp rfl) rfl) (rE ?_))))))
 try dsimp only [w0,w1,w2,w3]
 rcases ifc h with ⟨hc3,h⟩ | ⟨hc3,h⟩
 ·refine q_cond_t rfl (.tmp rfl) hc3 (qQ rfl (qR rfl rfl (qS 4 rfl (ok_assign · (.int _ _)) (rE ?_))))
  cases h
  exact q_ret rfl at_.at_ rfl (res1 rfl rfl) ⟨rfl,rfl⟩
 ·refine q_cond_f rfl (.tmp rfl) (bfalse hc3) (q_skipc rfl (qQ rfl (qQ rfl (qR rfl rfl (qS 14 rfl (oM · rfl) (qS 15 rfl (oM · rfl) (qS 16 rfl (ok_sbin · (.tmp rfl) (.tmp rfl) rfl) (rE ?_))))))))
  try dsimp only [w0,w1,w2,w3]
  rcases ifc h with ⟨hc4,h⟩ | ⟨hc4,h⟩
  ·refine q_cond_t rfl (.tmp rfl) hc4 (qQ rfl (qR rfl rfl (qS 4 rfl (ok_assign · (.int _ _)) (rE ?_))))
   cases h
   exact q_ret rfl at_.at_ rfl (res1 rfl rfl) ⟨rfl,rfl⟩
  ·refine q_cond_f rfl (.tmp rfl) (bfalse hc4) (q_skipc rfl (qQ rfl (qR rfl rfl (qS 4 rfl (ok_assign · (.int _ _)) (rE ?_)))))
   cases h
   exact q_ret rfl at_.at_ rfl (res1 rfl rfl) ⟨rfl,rfl⟩
end
end rollcallref01_Compare
namespace room_Room_Member
theorem at_ : FnAt Tryz.prog 26 Tryz.f26 := ⟨Tryz.func26,by kernel_rfl⟩
def d0 := (Tryz.f26.body).getD .skip
def r1 := kR (kA d0)
def r3 := kR (kA (kB d0))
def r6 := kR (kA (kA (kB (kB d0))))
def r9 := kR (kA (kA (kB (kA (kB (kB d0))))))
def r13 := kR (kA (kB (kB (kB d0))))
def c0 : Code := .seq (.region 0 r1 false) (.seq (.region 1 r3 false) (.seq (.seq (.region 2 r6 false) (.cond (.tmp 15) (.seq (.region 3 r9 false) .ret) .skip)) (.seq (.region 4 r13 false) .ret)))
theorem body : Tryz.f26.body = some c0 := by kernel_rfl
section
variable {base : Nat} {W0 : World} {β0 : Bt}
def f (D : Dp) (H : Hd) (k : Nat) (x0 : (Option HA)) (x1 : Int) (S : HS) : Option ((Int × Bool × Bool × Bool) × HS) :=
 (letv (HS.new S (.cells 3 [[(.int .i64 0),(.bool false),(.bool false)]] true)) fun p1 =>
 (Option.bind (room_Room_at.f D H k x0 x1 p1) fun p2 =>
 (if (!p2.1.2) = true then
 (Option.bind (HS.sets p2.2 (HA.cell0 S.next) [(.int .i64 0),(.bool false),(.bool false)]) fun p4 =>
 (Option.bind (HS.ldI p4 .i64 (HA.fld (HA.cell0 S.next) 0)) fun p5 =>
 (Option.bind (HS.ldB p4 (HA.fld (HA.cell0 S.next) 1)) fun p6 =>
 (Option.bind (HS.ldB p4 (HA.fld (HA.cell0 S.next) 2)) fun p7 =>
 some ((p5,p6,p7,false),p4))))) else
 (Option.bind (x0) fun p8 =>
 (Option.bind (HS.ldSl p2.2 (HA.fld p8 2)) fun p9 =>
 (Option.bind (HS.idx p2.2 p9 p2.1.1 3) fun p10 =>
 (Option.bind (HS.ldI p2.2 .i64 (HA.fld p10 0)) fun p11 =>
 (Option.bind (HS.ldB p2.2 (HA.fld p10 1)) fun p12 =>
 (Option.bind (HS.ldB p2.2 (HA.fld p10 2)) fun p13 =>
 (Option.bind (HS.sets p2.2 (HA.cell0 S.next) [(.int .i64 p11),(.bool p12),(.bool p13)]) fun p14 =>
 (Option.bind (HS.ldI p14 .i64 (HA.fld (HA.cell0 S.next) 0)) fun p15 =>
 (Option.bind (HS.ldB p14 (HA.fld (HA.cell0 S.next) 1)) fun p16 =>
 (Option.bind (HS.ldB p14 (HA.fld (HA.cell0 S.next) 2)) fun p17 =>
 some ((p15,p16,p17,true),p14))))))))))))))
theorem snd {x0 : (Option HA)} {x1 : Int} {S : HS} (hD : DSound Tryz.prog base W0 D) (hH : HSound Tryz.prog base W0 β0 H)  {p : (Int × Bool × Bool × Bool) × HS} (h : f D H k x0 x1 S = some p) : HCall Tryz.prog base W0 β0 26 [(.ptr x0),(.int .i64 x1)] S (fun v S1 => v = (.tup [(.agg [(.int .i64 p.1.1),(.bool p.1.2.1),(.bool p.1.2.2.1)]),(.bool p.1.2.2.2)]) ∧ S1 = p.2) := by
 unfold f at h
 refine HCall.of_run at_.at_ body ?_
 show HRun Tryz.prog base W0 β0 26 none [.code c0] ⟨[(.ptr x0),(.int .i64 x1),τ,τ,τ,τ,τ,τ,τ,τ,τ,τ,τ,τ,τ,τ,τ,τ,τ,τ,τ,τ,τ,τ],[]⟩ S _
 obtain ⟨p1,hp1,h⟩ := leto h
 refine qQ rfl (qR rfl rfl (qS 4 rfl (ok_alloc_e · zi62 zr62 (by decide) rfl hp1) (qS 5 rfl (ok_assign · (.bool _)) (rE ?_))))
 try dsimp only [w0,w1,w2,w3]
 obtain ⟨p2,hp2,h⟩ := bindo h
 refine qQ rfl (qR rfl rfl (qS 9 rfl (oM · rfl) (qS 10 rfl (oM · rfl) (q_call (dst := some 11) rfl (.func _) (.cons (.tmp rfl) (.cons (.tmp rfl) Evs.nil)) (HInv.static room_Room_at.at_ room_Room_at.body (room_Room_at.snd hD hH hp2)) ?_))))
 rintro _ _ ⟨rfl,rfl⟩
 refine qS 8 rfl (oM · rfl) ?_
 try dsimp only [w0,w1,w2,w3]
 refine qS 12 rfl (ok_extract · (.tmp rfl) rfl) (qS 13 rfl (ok_extract · (.tmp rfl) rfl) (qS 6 rfl (oA · rfl) (qS 7 rfl (oA · rfl) (rE ?_))))
 try dsimp only [w0,w1,w2,w3]
 refine qQ rfl (qQ rfl (qR rfl rfl (qS 14 rfl (oM · rfl) (qS 15 rfl (ok_not · (.tmp rfl)) (rE ?_)))))
 try dsimp only [w0,w1,w2,w3]
 rcases ifc h with ⟨hc3,h⟩ | ⟨hc3,h⟩
 ·obtain ⟨p4,hp4,h⟩ := bindo h
  refine q_cond_t rfl (.tmp rfl) hc3 (qQ rfl (qR rfl rfl (qS 16 rfl (ok_build (is := []) (xs := []) (r := [(.int .i64 0),(.bool false),(.bool false)]) st62 · rfl rfl Evs.nil rfl) (qN rfl (ok_store_s (v := (.agg [(.int .i64 0),(.bool false),(.bool false)])) · sz62 (.tmp rfl) rfl (.tmp rfl) rfl hp4) (qS 5 rfl (ok_assign · (.bool _)) (rE ?_))))))
  try dsimp only [w0,w1,w2,w3]
  obtain ⟨p5,hp5,h⟩ := bindo h
  obtain ⟨p6,hp6,h⟩ := bindo h
  obtain ⟨p7,hp7,h⟩ := bindo h
  cases h
  exact q_ret rfl at_.at_ rfl (resL (rs := [.cell 4 62,.tmp 5]) rfl (.cons (.agg (vs := [(.int .i64 p5),(.bool p6),(.bool p7)]) rfl rfl ia62 ⟨ldI_out hp5,ldB_out hp6,ldB_out hp7,trivial⟩ (by simp)) (.cons (.tmp rfl) .nil)) (by simp)) ⟨rfl,rfl⟩
 ·obtain ⟨p8,hp8,h⟩ := bindo h
  obtain ⟨p9,hp9,h⟩ := bindo h
  refine q_cond_f rfl (.tmp rfl) (bfalse hc3) (q_skipc rfl (qQ rfl (qR rfl rfl (qS 17 rfl (oM · rfl) (qS 18 rfl (oN · rfl hp8) (qS 19 rfl (oF · fi114_2 (by decide) rfl rfl) (qS 20 rfl (oL · sc87 rfl rfl (ldSl_out hp9)) ?_)))))))
  try dsimp only [w0,w1,w2,w3]
  obtain ⟨p10,hp10,h⟩ := bindo h
  obtain ⟨p11,hp11,h⟩ := bindo h
  obtain ⟨p12,hp12,h⟩ := bindo h
  obtain ⟨p13,hp13,h⟩ := bindo h
  obtain ⟨p14,hp14,h⟩ := bindo h
  refine qS 21 rfl (oM · rfl) (qS 22 rfl (oX (s := p9) · tu87 sz62 rfl rfl hp10) (qS 23 rfl (ok_load_a (vs := [(.int .i64 p11),(.bool p12),(.bool p13)]) · ia62 (.tmp rfl) rfl ⟨ldI_out hp11,ldB_out hp12,ldB_out hp13,trivial⟩ (by simp)) (qN rfl (ok_store_s (v := (.agg [(.int .i64 p11),(.bool p12),(.bool p13)])) · sz62 (.tmp rfl) rfl (.tmp rfl) rfl hp14) ?_)))
  try dsimp only [w0,w1,w2,w3]
  refine qS 5 rfl (ok_assign · (.bool _)) (rE ?_)
  try dsimp only [w0,w1,w2,w3]
  obtain ⟨p15,hp15,h⟩ := bindo h
  obtain ⟨p16,hp16,h⟩ := bindo h
  obtain ⟨p17,hp17,h⟩ := bindo h
  cases h
  exact q_ret rfl at_.at_ rfl (resL (rs := [.cell 4 62,.tmp 5]) rfl (.cons (.agg (vs := [(.int .i64 p15),(.bool p16),(.bool p17)]) rfl rfl ia62 ⟨ldI_out hp15,ldB_out hp16,ldB_out hp17,trivial⟩ (by simp)) (.cons (.tmp rfl) .nil)) (by simp)) ⟨rfl,rfl⟩
end
end room_Room_Member
end
end Go.Proofs.YtbmfomkfmpppiaaGreat.X
namespace Go.Proofs.YtbmfomkfmpppiaaGreat.X
open Go.Proofs.YtbmfomkfmpppiaaGreat.HL
set_option linter.unusedVariables false
set_option linter.unusedSimpArgs false
set_option maxRecDepth 20000
set_option maxHeartbeats 4000000
noncomputable section
variable {D : Dp} {H : Hd} {k : Nat} {Ga Gb Gc Gd Ge Gf Gg Gh Gi Gj Gk Gl Gm Gn Go Gp Gq Gr Gs Gt Gu Gv Gw Gx Gy Gz Ka Kb Kc Kd Ke Kf Kg Kh Ki Kj Kk Kl Km Kn Ko Kp Kq Kr Ks Kt Ku Kv Kw Kx Ky Kz Ma Mb Mc Md Me Mf Mg Mh Mi Mj Mk Ml Mm Mn Mo Mp Mq Mr Ms Mt Mu Mv Mw Mx My Mz Na Nb Nc Nd Ne Nf Ng Nh Ni Nj Nk Nl Nm Nn No Np Nq Nr Ns Nt Nu Nv Nw Nx Ny Nz Qa Qb Qc Qd Qe Qf Qg Qh Qi Qj Qk Ql Qm Qn Qo Qp Qq Qr Qs Qt Qu Qv Qw Qx Qy Qz Ua Ub Uc : HV}
section
variable {base : Nat} {W0 : World} {β0 : Bt}
def call_103 (D : Dp) (H : Hd) (k : Nat) (vs : List HV) (S : HS) : Option (HV × HS) :=
 Option.bind (args2 vs) fun a =>
 Option.bind (dA2 a.1) fun p0 =>
 Option.bind (dS p0.1) fun p1 =>
 Option.bind (dP p0.2) fun p2 =>
 Option.bind (dS a.2) fun p3 =>
 Option.bind (book_Book_room_Room_at_1.f k p1 p2 p3 S) fun q =>
 some ((.int .i64 q.1),q.2)
theorem call_103_snd (hD : DSound Tryz.prog base W0 D) (hH : HSound Tryz.prog base W0 β0 H) {vs : List HV} {S : HS} {p : HV × HS} (h : call_103 D H k vs S = some p) : HCall Tryz.prog base W0 β0 103 vs S (fun v1 S1 => v1 = p.1 ∧ S1 = p.2) := by
 unfold call_103 at h
 obtain ⟨a,ha,h⟩ := bindo h
 obtain ⟨p0,hp0,h⟩ := bindo h
 obtain ⟨p1,hp1,h⟩ := bindo h
 obtain ⟨p2,hp2,h⟩ := bindo h
 obtain ⟨p3,hp3,h⟩ := bindo h
 obtain ⟨q,hq,h⟩ := bindo h
 rw [args2_out ha,dA2_out hp0,dS_out hp1,dP_out hp2,dS_out hp3]
 cases h
 exact book_Book_room_Room_at_1.snd hq
def call_97 (D : Dp) (H : Hd) (k : Nat) (vs : List HV) (S : HS) : Option (HV × HS) :=
 Option.bind (args2 vs) fun a =>
 Option.bind (dA3 a.1) fun p0 =>
 Option.bind (dI .i64 p0.1) fun p1 =>
 Option.bind (dB p0.2.1) fun p2 =>
 Option.bind (dB p0.2.2) fun p3 =>
 Option.bind (dI .i64 a.2) fun p4 =>
 Option.bind (room_Room_at_1.f p1 p2 p3 p4 S) fun q =>
 some ((.int .i64 q.1),q.2)
theorem call_97_snd (hD : DSound Tryz.prog base W0 D) (hH : HSound Tryz.prog base W0 β0 H) {vs : List HV} {S : HS} {p : HV × HS} (h : call_97 D H k vs S = some p) : HCall Tryz.prog base W0 β0 97 vs S (fun v1 S1 => v1 = p.1 ∧ S1 = p.2) := by
 unfold call_97 at h
 obtain ⟨a,ha,h⟩ := bindo h
 obtain ⟨p0,hp0,h⟩ := bindo h
 obtain ⟨p1,hp1,h⟩ := bindo h
 obtain ⟨p2,hp2,h⟩ := bindo h
 obtain ⟨p3,hp3,h⟩ := bindo h
 obtain ⟨p4,hp4,h⟩ := bindo h
 obtain ⟨q,hq,h⟩ := bindo h
 rw [args2_out ha,dA3_out hp0,dI_out hp1,dB_out hp2,dB_out hp3,dI_out hp4]
 cases h
 exact room_Room_at_1.snd hq
def call_130 (D : Dp) (H : Hd) (k : Nat) (vs : List HV) (S : HS) : Option (HV × HS) :=
 Option.bind (args2 vs) fun a =>
 Option.bind (dF a.1) fun p0 =>
 Option.bind (dP a.2) fun p1 =>
 Option.bind (slices_Values_string_string_1.f D H k p0 p1 S) fun q =>
 some (.tup [],q.2)
theorem call_130_snd (hD : DSound Tryz.prog base W0 D) (hH : HSound Tryz.prog base W0 β0 H) {vs : List HV} {S : HS} {p : HV × HS} (h : call_130 D H k vs S = some p) : HCall Tryz.prog base W0 β0 130 vs S (fun v1 S1 => v1 = p.1 ∧ S1 = p.2) := by
 unfold call_130 at h
 obtain ⟨a,ha,h⟩ := bindo h
 obtain ⟨p0,hp0,h⟩ := bindo h
 obtain ⟨p1,hp1,h⟩ := bindo h
 obtain ⟨q,hq,h⟩ := bindo h
 rw [args2_out ha,dF_out hp0,dP_out hp1]
 cases h
 exact slices_Values_string_string_1.snd hD hH hq
def call_93 (D : Dp) (H : Hd) (k : Nat) (vs : List HV) (S : HS) : Option (HV × HS) :=
 Option.bind (args1 vs) fun a =>
 Option.bind (dF a) fun p0 =>
 Option.bind (pair_Rel_int_string_Of_1.f p0) fun q =>
 some (.tup [],S)
theorem call_93_snd (hD : DSound Tryz.prog base W0 D) (hH : HSound Tryz.prog base W0 β0 H) {vs : List HV} {S : HS} {p : HV × HS} (h : call_93 D H k vs S = some p) : HCall Tryz.prog base W0 β0 93 vs S (fun v1 S1 => v1 = p.1 ∧ S1 = p.2) := by
 unfold call_93 at h
 obtain ⟨a,ha,h⟩ := bindo h
 obtain ⟨p0,hp0,h⟩ := bindo h
 obtain ⟨q,hq,h⟩ := bindo h
 rw [args1_out ha,dF_out hp0]
 cases h
 exact pair_Rel_int_string_Of_1.snd hq
def call_63 (D : Dp) (H : Hd) (k : Nat) (vs : List HV) (S : HS) : Option (HV × HS) :=
 Option.bind (args2 vs) fun a =>
 Option.bind (dF a.1) fun p0 =>
 Option.bind (dP a.2) fun p1 =>
 Option.bind (rooms_Rooms_Of_1.f D H k p0 p1 S) fun q =>
 some (.tup [],q.2)
theorem call_63_snd (hD : DSound Tryz.prog base W0 D) (hH : HSound Tryz.prog base W0 β0 H) {vs : List HV} {S : HS} {p : HV × HS} (h : call_63 D H k vs S = some p) : HCall Tryz.prog base W0 β0 63 vs S (fun v1 S1 => v1 = p.1 ∧ S1 = p.2) := by
 unfold call_63 at h
 obtain ⟨a,ha,h⟩ := bindo h
 obtain ⟨p0,hp0,h⟩ := bindo h
 obtain ⟨p1,hp1,h⟩ := bindo h
 obtain ⟨q,hq,h⟩ := bindo h
 rw [args2_out ha,dF_out hp0,dP_out hp1]
 cases h
 exact rooms_Rooms_Of_1.snd hD hH hq
def call_113 (D : Dp) (H : Hd) (k : Nat) (vs : List HV) (S : HS) : Option (HV × HS) :=
 Option.bind (args2 vs) fun a =>
 Option.bind (dF a.1) fun p0 =>
 Option.bind (dP a.2) fun p1 =>
 Option.bind (slices_Values_api_Member_api_Member_1.f D H k p0 p1 S) fun q =>
 some (.tup [],q.2)
theorem call_113_snd (hD : DSound Tryz.prog base W0 D) (hH : HSound Tryz.prog base W0 β0 H) {vs : List HV} {S : HS} {p : HV × HS} (h : call_113 D H k vs S = some p) : HCall Tryz.prog base W0 β0 113 vs S (fun v1 S1 => v1 = p.1 ∧ S1 = p.2) := by
 unfold call_113 at h
 obtain ⟨a,ha,h⟩ := bindo h
 obtain ⟨p0,hp0,h⟩ := bindo h
 obtain ⟨p1,hp1,h⟩ := bindo h
 obtain ⟨q,hq,h⟩ := bindo h
 rw [args2_out ha,dF_out hp0,dP_out hp1]
 cases h
 exact slices_Values_api_Member_api_Member_1.snd hD hH hq
def call_81 (D : Dp) (H : Hd) (k : Nat) (vs : List HV) (S : HS) : Option (HV × HS) :=
 Option.bind (args1 vs) fun a =>
 Option.bind (dF a) fun p0 =>
 Option.bind (room_Room_Members_1.f p0) fun q =>
 some (.tup [],S)
theorem call_81_snd (hD : DSound Tryz.prog base W0 D) (hH : HSound Tryz.prog base W0 β0 H) {vs : List HV} {S : HS} {p : HV × HS} (h : call_81 D H k vs S = some p) : HCall Tryz.prog base W0 β0 81 vs S (fun v1 S1 => v1 = p.1 ∧ S1 = p.2) := by
 unfold call_81 at h
 obtain ⟨a,ha,h⟩ := bindo h
 obtain ⟨p0,hp0,h⟩ := bindo h
 obtain ⟨q,hq,h⟩ := bindo h
 rw [args1_out ha,dF_out hp0]
 cases h
 exact room_Room_Members_1.snd hq
def call_88 (D : Dp) (H : Hd) (k : Nat) (vs : List HV) (S : HS) : Option (HV × HS) :=
 Option.bind (args2 vs) fun a =>
 Option.bind (dF a.1) fun p0 =>
 Option.bind (dP a.2) fun p1 =>
 Option.bind (set_Union_int_1.f D H k p0 p1 S) fun q =>
 some (.tup [],q.2)
theorem call_88_snd (hD : DSound Tryz.prog base W0 D) (hH : HSound Tryz.prog base W0 β0 H) {vs : List HV} {S : HS} {p : HV × HS} (h : call_88 D H k vs S = some p) : HCall Tryz.prog base W0 β0 88 vs S (fun v1 S1 => v1 = p.1 ∧ S1 = p.2) := by
 unfold call_88 at h
 obtain ⟨a,ha,h⟩ := bindo h
 obtain ⟨p0,hp0,h⟩ := bindo h
 obtain ⟨p1,hp1,h⟩ := bindo h
 obtain ⟨q,hq,h⟩ := bindo h
 rw [args2_out ha,dF_out hp0,dP_out hp1]
 cases h
 exact set_Union_int_1.snd hD hH hq
def call_86 (D : Dp) (H : Hd) (k : Nat) (vs : List HV) (S : HS) : Option (HV × HS) :=
 Option.bind (args3 vs) fun a =>
 Option.bind (dF a.1) fun p0 =>
 Option.bind (dP a.2.1) fun p1 =>
 Option.bind (dP a.2.2) fun p2 =>
 Option.bind (set_Without_int_1.f D H p0 p1 p2 S) fun q =>
 some (.tup [],q.2)
theorem call_86_snd (hD : DSound Tryz.prog base W0 D) (hH : HSound Tryz.prog base W0 β0 H) {vs : List HV} {S : HS} {p : HV × HS} (h : call_86 D H k vs S = some p) : HCall Tryz.prog base W0 β0 86 vs S (fun v1 S1 => v1 = p.1 ∧ S1 = p.2) := by
 unfold call_86 at h
 obtain ⟨a,ha,h⟩ := bindo h
 obtain ⟨p0,hp0,h⟩ := bindo h
 obtain ⟨p1,hp1,h⟩ := bindo h
 obtain ⟨p2,hp2,h⟩ := bindo h
 obtain ⟨q,hq,h⟩ := bindo h
 rw [args3_out ha,dF_out hp0,dP_out hp1,dP_out hp2]
 cases h
 exact set_Without_int_1.snd hD hH hq
def call_119 (D : Dp) (H : Hd) (k : Nat) (vs : List HV) (S : HS) : Option (HV × HS) :=
 Option.bind (args2 vs) fun a =>
 Option.bind (dF a.1) fun p0 =>
 Option.bind (dP a.2) fun p1 =>
 Option.bind (book_told_room_Room_1.f D H k p0 p1 S) fun q =>
 some (.tup [],q.2)
theorem call_119_snd (hD : DSound Tryz.prog base W0 D) (hH : HSound Tryz.prog base W0 β0 H) {vs : List HV} {S : HS} {p : HV × HS} (h : call_119 D H k vs S = some p) : HCall Tryz.prog base W0 β0 119 vs S (fun v1 S1 => v1 = p.1 ∧ S1 = p.2) := by
 unfold call_119 at h
 obtain ⟨a,ha,h⟩ := bindo h
 obtain ⟨p0,hp0,h⟩ := bindo h
 obtain ⟨p1,hp1,h⟩ := bindo h
 obtain ⟨q,hq,h⟩ := bindo h
 rw [args2_out ha,dF_out hp0,dP_out hp1]
 cases h
 exact book_told_room_Room_1.snd hD hH hq
def call_90 (D : Dp) (H : Hd) (k : Nat) (vs : List HV) (S : HS) : Option (HV × HS) :=
 Option.bind (args1 vs) fun a =>
 Option.bind (dF a) fun p0 =>
 Option.bind (book_Book_room_Room_All_1.f p0) fun q =>
 some (.tup [],S)
theorem call_90_snd (hD : DSound Tryz.prog base W0 D) (hH : HSound Tryz.prog base W0 β0 H) {vs : List HV} {S : HS} {p : HV × HS} (h : call_90 D H k vs S = some p) : HCall Tryz.prog base W0 β0 90 vs S (fun v1 S1 => v1 = p.1 ∧ S1 = p.2) := by
 unfold call_90 at h
 obtain ⟨a,ha,h⟩ := bindo h
 obtain ⟨p0,hp0,h⟩ := bindo h
 obtain ⟨q,hq,h⟩ := bindo h
 rw [args1_out ha,dF_out hp0]
 cases h
 exact book_Book_room_Room_All_1.snd hq
def call_59 (D : Dp) (H : Hd) (k : Nat) (vs : List HV) (S : HS) : Option (HV × HS) :=
 Option.bind (args1 vs) fun a =>
 Option.bind (dF a) fun p0 =>
 Option.bind (rooms_Rooms_All_1.f p0) fun q =>
 some (.tup [],S)
theorem call_59_snd (hD : DSound Tryz.prog base W0 D) (hH : HSound Tryz.prog base W0 β0 H) {vs : List HV} {S : HS} {p : HV × HS} (h : call_59 D H k vs S = some p) : HCall Tryz.prog base W0 β0 59 vs S (fun v1 S1 => v1 = p.1 ∧ S1 = p.2) := by
 unfold call_59 at h
 obtain ⟨a,ha,h⟩ := bindo h
 obtain ⟨p0,hp0,h⟩ := bindo h
 obtain ⟨q,hq,h⟩ := bindo h
 rw [args1_out ha,dF_out hp0]
 cases h
 exact rooms_Rooms_All_1.snd hq
def call_61 (D : Dp) (H : Hd) (k : Nat) (vs : List HV) (S : HS) : Option (HV × HS) :=
 Option.bind (args2 vs) fun a =>
 Option.bind (dF a.1) fun p0 =>
 Option.bind (dP a.2) fun p1 =>
 Option.bind (rooms_Rooms_All_2.f D H p0 p1 S) fun q =>
 some (.tup [],q.2)
theorem call_61_snd (hD : DSound Tryz.prog base W0 D) (hH : HSound Tryz.prog base W0 β0 H) {vs : List HV} {S : HS} {p : HV × HS} (h : call_61 D H k vs S = some p) : HCall Tryz.prog base W0 β0 61 vs S (fun v1 S1 => v1 = p.1 ∧ S1 = p.2) := by
 unfold call_61 at h
 obtain ⟨a,ha,h⟩ := bindo h
 obtain ⟨p0,hp0,h⟩ := bindo h
 obtain ⟨p1,hp1,h⟩ := bindo h
 obtain ⟨q,hq,h⟩ := bindo h
 rw [args2_out ha,dF_out hp0,dP_out hp1]
 cases h
 exact rooms_Rooms_All_2.snd hD hH hq
def disp (k : Nat) : Nat → Dp
 | 0 => fun _ _ _ _ => none
 | n + 1 => fun H fv vs S => match fv with
  | .fn (.yield l) [] [] => Option.bind (H l) fun r => r vs S
  | .fn (.func f) xs ys => if f = 103 then call_103 (disp k n) H k (xs ++ vs ++ ys) S else if f = 97 then call_97 (disp k n) H k (xs ++ vs ++ ys) S else if f = 130 then call_130 (disp k n) H k (xs ++ vs ++ ys) S else if f = 93 then call_93 (disp k n) H k (xs ++ vs ++ ys) S else if f = 63 then call_63 (disp k n) H k (xs ++ vs ++ ys) S else if f = 113 then call_113 (disp k n) H k (xs ++ vs ++ ys) S else if f = 81 then call_81 (disp k n) H k (xs ++ vs ++ ys) S else if f = 88 then call_88 (disp k n) H k (xs ++ vs ++ ys) S else if f = 86 then call_86 (disp k n) H k (xs ++ vs ++ ys) S else if f = 119 then call_119 (disp k n) H k (xs ++ vs ++ ys) S else if f = 90 then call_90 (disp k n) H k (xs ++ vs ++ ys) S else if f = 59 then call_59 (disp k n) H k (xs ++ vs ++ ys) S else if f = 61 then call_61 (disp k n) H k (xs ++ vs ++ ys) S else none
  | _ => none
theorem disp_func {k n : Nat} {H : Hd} {f : Nat} {xs ys vs : List HV} {S : HS} : disp k (n + 1) H (.fn (.func f) xs ys) vs S = (if f = 103 then call_103 (disp k n) H k (xs ++ vs ++ ys) S else if f = 97 then call_97 (disp k n) H k (xs ++ vs ++ ys) S else if f = 130 then call_130 (disp k n) H k (xs ++ vs ++ ys) S else if f = 93 then call_93 (disp k n) H k (xs ++ vs ++ ys) S else if f = 63 then call_63 (disp k n) H k (xs ++ vs ++ ys) S else if f = 113 then call_113 (disp k n) H k (xs ++ vs ++ ys) S else if f = 81 then call_81 (disp k n) H k (xs ++ vs ++ ys) S else if f = 88 then call_88 (disp k n) H k (xs ++ vs ++ ys) S else if f = 86 then call_86 (disp k n) H k (xs ++ vs ++ ys) S else if f = 119 then call_119 (disp k n) H k (xs ++ vs ++ ys) S else if f = 90 then call_90 (disp k n) H k (xs ++ vs ++ ys) S else if f = 59 then call_59 (disp k n) H k (xs ++ vs ++ ys) S else if f = 61 then call_61 (disp k n) H k (xs ++ vs ++ ys) S else none) := rfl
theorem disp_yield {k n : Nat} {H : Hd} {l : Nat} {vs : List HV} {S : HS} : disp k (n + 1) H (.fn (.yield l) [] []) vs S = Option.bind (H l) fun r => r vs S := rfl
theorem disp_snd : ∀ n,DSound Tryz.prog base W0 (disp k n) := by
 intro n
 induction n with
 | zero => intro _ _ _ _ _ _ _ _ h; cases h
 | succ n ih =>
  intro β0 H hH fv vs S v S' h
  unfold disp at h
  split at h
  ·obtain ⟨r,hr,h⟩ := bindo h
   exact hH _ _ hr _ _ _ _ h
  ·skip
   rcases ifc h with ⟨hf,h⟩ | ⟨hf,h⟩
   ·subst hf; exact HInv.func book_Book_room_Room_at_1.at_ book_Book_room_Room_at_1.body (call_103_snd (k := k) ih hH h)
   rcases ifc h with ⟨hf,h⟩ | ⟨hf,h⟩
   ·subst hf; exact HInv.func room_Room_at_1.at_ room_Room_at_1.body (call_97_snd (k := k) ih hH h)
   rcases ifc h with ⟨hf,h⟩ | ⟨hf,h⟩
   ·subst hf; exact HInv.func slices_Values_string_string_1.at_ slices_Values_string_string_1.body (call_130_snd (k := k) ih hH h)
   rcases ifc h with ⟨hf,h⟩ | ⟨hf,h⟩
   ·subst hf; exact HInv.func pair_Rel_int_string_Of_1.at_ pair_Rel_int_string_Of_1.body (call_93_snd (k := k) ih hH h)
   rcases ifc h with ⟨hf,h⟩ | ⟨hf,h⟩
   ·subst hf; exact HInv.func rooms_Rooms_Of_1.at_ rooms_Rooms_Of_1.body (call_63_snd (k := k) ih hH h)
   rcases ifc h with ⟨hf,h⟩ | ⟨hf,h⟩
   ·subst hf; exact HInv.func slices_Values_api_Member_api_Member_1.at_ slices_Values_api_Member_api_Member_1.body (call_113_snd (k := k) ih hH h)
   rcases ifc h with ⟨hf,h⟩ | ⟨hf,h⟩
   ·subst hf; exact HInv.func room_Room_Members_1.at_ room_Room_Members_1.body (call_81_snd (k := k) ih hH h)
   rcases ifc h with ⟨hf,h⟩ | ⟨hf,h⟩
   ·subst hf; exact HInv.func set_Union_int_1.at_ set_Union_int_1.body (call_88_snd (k := k) ih hH h)
   rcases ifc h with ⟨hf,h⟩ | ⟨hf,h⟩
   ·subst hf; exact HInv.func set_Without_int_1.at_ set_Without_int_1.body (call_86_snd (k := k) ih hH h)
   rcases ifc h with ⟨hf,h⟩ | ⟨hf,h⟩
   ·subst hf; exact HInv.func book_told_room_Room_1.at_ book_told_room_Room_1.body (call_119_snd (k := k) ih hH h)
   rcases ifc h with ⟨hf,h⟩ | ⟨hf,h⟩
   ·subst hf; exact HInv.func book_Book_room_Room_All_1.at_ book_Book_room_Room_All_1.body (call_90_snd (k := k) ih hH h)
   rcases ifc h with ⟨hf,h⟩ | ⟨hf,h⟩
   ·subst hf; exact HInv.func rooms_Rooms_All_1.at_ rooms_Rooms_All_1.body (call_59_snd (k := k) ih hH h)
   rcases ifc h with ⟨hf,h⟩ | ⟨hf,h⟩
   ·subst hf; exact HInv.func rooms_Rooms_All_2.at_ rooms_Rooms_All_2.body (call_61_snd (k := k) ih hH h)
   cases h
  ·cases h
end
end
end Go.Proofs.YtbmfomkfmpppiaaGreat.X
