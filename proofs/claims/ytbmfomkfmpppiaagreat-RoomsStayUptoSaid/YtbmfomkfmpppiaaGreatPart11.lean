/- Functions of the program, each as a Lean function over the layer HL: a call answers what the Lean function answers, where it answers. -/
import Derived.Test.YtbmfomkfmpppiaaGreatProg
import Derived.Test.YtbmfomkfmpppiaaGreatPart10
namespace Go.Proofs.YtbmfomkfmpppiaaGreat.X
open Go.Proofs.YtbmfomkfmpppiaaGreat.HL
set_option linter.unusedVariables false
set_option linter.unusedSimpArgs false
set_option maxRecDepth 20000
set_option maxHeartbeats 4000000
noncomputable section
variable {base : Nat} {W0 : World} {β0 : Bt}
variable {D : Dp} {H : Hd} {k : Nat} {Ga Gb Gc Gd Ge Gf Gg Gh Gi Gj Gk Gl Gm Gn Go Gp Gq Gr Gs Gt Gu Gv Gw Gx Gy Gz Ka Kb Kc Kd Ke Kf Kg Kh Ki Kj Kk Kl Km Kn Ko Kp Kq Kr Ks Kt Ku Kv Kw Kx Ky Kz Ma Mb Mc Md Me Mf Mg Mh Mi Mj Mk Ml Mm Mn Mo Mp Mq Mr Ms Mt Mu Mv Mw Mx My Mz : HV}
namespace rooms_Rooms_Join
theorem at_ : FnAt Tryz.prog 12 Tryz.f12 := ⟨Tryz.func12,by kernel_rfl⟩
def d0 := (Tryz.f12.body).getD .skip
def r1 := kR (kA d0)
def r4 := kR (kA (kA (kB d0)))
def r7 := kR (kA (kA (kB (kA (kB d0)))))
def r11 := kR (kA (kB (kB d0)))
def d12 := kB (kB (kB d0))
def r13 := kR (kA d12)
def r16 := kR (kA (kA (kB d12)))
def r19 := kR (kA (kA (kB (kA (kB d12)))))
def d23 := kA (kB (kB d12))
def r24 := kR (kA d23)
def r27 := kR (kA (kA (kB d23)))
def r29 := kR (kA (kB (kA (kB d23))))
def r32 := kR (kA (kA (kB (kB (kA (kB d23))))))
def d36 := kB (kB (kB d12))
def r38 := kR (kA (kA d36))
def r41 := kR (kA (kA (kB (kA d36))))
def r46 := kR (kA (kA (kB d36)))
def r48 := kR (kA (kB (kA (kB d36))))
def r51 := kR (kA (kB (kB d36)))
def r53 := kR (kA (kB (kB (kB d36))))
def c50 : Code := .seq (.region 15 r51 false) (.seq (.region 16 r53 false) .ret)
def c36 : Code := .seq (.seq (.region 11 r38 false) (.cond (.tmp 62) (.seq (.region 12 r41 false) .ret) .skip)) (.seq (.seq (.region 13 r46 false) (.cond (.tmp 64) (.region 14 r48 false) .skip)) c50)
def c22 : Code := .seq (.seq (.region 7 r24 false) (.cond (.tmp 36) (.seq (.region 8 r27 false) (.seq (.region 9 r29 true) (.cond (.tmp 54) (.seq (.region 10 r32 false) .ret) .skip))) .skip)) c36
def c17 : Code := .cond (.tmp 33) (.seq (.region 6 r19 false) .ret) .skip
def c0 : Code := .seq (.region 0 r1 false) (.seq (.seq (.region 1 r4 false) (.cond (.tmp 12) (.seq (.region 2 r7 false) .ret) .skip)) (.seq (.region 3 r11 false) (.seq (.region 4 r13 false) (.seq (.seq (.region 5 r16 false) c17) c22))))
theorem body : Tryz.f12.body = some c0 := by kernel_rfl
def J2 (D : Dp) (H : Hd) (k : Nat) (y1 : Int) (y8 : HP) (y9 : Bool) (S : HS) : Option ((HP × Int) × HS) :=
 ((room_Room_Add.f D H k y8 y1 (!y9) S).bind fun p31 =>
 some ((y8,0),p31.2))
theorem J2_snd (hD : DS base W0 D) (hH : HT base W0 β0 H)  {y1 : Int} {y8 : HP} {y9 : Bool} {S : HS} {p : (HP × Int) × HS} (h : J2 D H k y1 y8 y9 S = some p) : HR base W0 β0 12 none [.code c50] ⟨[Ga,(.int .i64 y1),Gc,Gd,Ge,Gf,Gg,Gh,(.ptr y8),(.bool y9),Gk,Gl,Gm,Gn,Go,Gp,Gq,Gr,Gs,Gt,Gu,Gv,Gw,Gx,Gy,Gz,Ka,Kb,Kc,Kd,Ke,Kf,Kg,Kh,Ki,Kj,Kk,Kl,Km,Kn,Ko,Kp,Kq,Kr,Ks,Kt,Ku,Kv,Kw,Kx,Ky,Kz,Ma,Mb,Mc,Md,Me,Mf,Mg,Mh,Mi,Mj,Mk,Ml,Mm,Mn,Mo,Mp,Mq,Mr,Ms,Mt,Mu,Mv,Mw,Mx,My,Mz],[]⟩ S (fun v S1 => v = (.tup [(.ptr p.1.1),(.int .i64 p.1.2)]) ∧ S1 = p.2) := by
 unfold J2 at h
 refine qQ rfl (qR rfl rfl (qS 72 rfl (oM · rfl) (qS 73 rfl (oM · rfl) (qS 74 rfl (oM · rfl) (qS 75 rfl (ok_not · (.tmp rfl)) ?_)))))
 try dsimp only [w0,w1,w2,w3]
 obtain ⟨p31,hp31,h⟩ := bindo h
 refine q_call (dst := some 76) rfl (.func _) (.cons (.tmp rfl) (.cons (.tmp rfl) (.cons (.tmp rfl) Evs.nil))) (HInv.static room_Room_Add.at_ room_Room_Add.body (room_Room_Add.snd hD hH hp31)) ?_
 rintro _ _ ⟨rfl,rfl⟩
 refine rE ?_
 try dsimp only [w0,w1,w2,w3]
 refine qQ rfl (qR rfl rfl (qS 77 rfl (oM · rfl) (qS 6 rfl (oA · rfl) (qS 7 rfl (ok_assign · (.int _ _)) (rE ?_)))))
 cases h
 exact q_ret rfl at_.at_ rfl (res2 rfl rfl rfl) ⟨rfl,rfl⟩
def J1 (D : Dp) (H : Hd) (k : Nat) (y0 : HP) (y1 : Int) (y2 : (List UInt8)) (y8 : HP) (y9 : Bool) (y10 : (List UInt8)) (S : HS) : Option ((HP × Int) × HS) :=
 (y0.bind fun p23 =>
 ((S.ldP (HA.fld p23 16)).bind fun p24 =>
 ((pair_Rel_int_string_Add.f k p24 y1 y10 S).bind fun p25 =>
 (if (!decide (p25.1 = 0)) = true then
 some ((none,405),p25.2) else
 (if (!y9) = true then
 (y0.bind fun p28 =>
 ((p25.2.ldP (HA.fld p28 15)).bind fun p29 =>
 ((book_Book_room_Room_Put.f D H k p29 y2 y8 p25.2).bind fun p30 =>
 J2 D H k y1 y8 y9 p30.2))) else
 J2 D H k y1 y8 y9 p25.2)))))
theorem J1_snd (hD : DS base W0 D) (hH : HT base W0 β0 H)  {y0 : HP} {y1 : Int} {y2 : (List UInt8)} {y8 : HP} {y9 : Bool} {y10 : (List UInt8)} {S : HS} {p : (HP × Int) × HS} (h : J1 D H k y0 y1 y2 y8 y9 y10 S = some p) : HR base W0 β0 12 none [.code c36] ⟨[(.ptr y0),(.int .i64 y1),(.str y2),Gd,Ge,Gf,Gg,Gh,(.ptr y8),(.bool y9),(.str y10),Gl,Gm,Gn,Go,Gp,Gq,Gr,Gs,Gt,Gu,Gv,Gw,Gx,Gy,Gz,Ka,Kb,Kc,Kd,Ke,Kf,Kg,Kh,Ki,Kj,Kk,Kl,Km,Kn,Ko,Kp,Kq,Kr,Ks,Kt,Ku,Kv,Kw,Kx,Ky,Kz,Ma,Mb,Mc,Md,Me,Mf,Mg,Mh,Mi,Mj,Mk,Ml,Mm,Mn,Mo,Mp,Mq,Mr,Ms,Mt,Mu,Mv,Mw,Mx,My,Mz],[]⟩ S (fun v S1 => v = (.tup [(.ptr p.1.1),(.int .i64 p.1.2)]) ∧ S1 = p.2) := by
 unfold J1 at h
 obtain ⟨p23,hp23,h⟩ := bindo h
 obtain ⟨p24,hp24,h⟩ := bindo h
 refine qQ rfl (qQ rfl (qR rfl rfl (qS 55 rfl (oM · rfl) (qS 56 rfl (oN · rfl hp23) (qS 57 rfl (oF · fi83_2 (by decide) rfl rfl) (qS 58 rfl (oL · sc79 rfl rfl (ldP_out hp24)) ?_))))))
 try dsimp only [w0,w1,w2,w3]
 obtain ⟨p25,hp25,h⟩ := bindo h
 refine qS 59 rfl (oM · rfl) (qS 60 rfl (oM · rfl) (q_call (dst := some 61) rfl (.func _) (.cons (.tmp rfl) (.cons (.tmp rfl) (.cons (.tmp rfl) Evs.nil))) (HInv.static pair_Rel_int_string_Add.at_ pair_Rel_int_string_Add.body (pair_Rel_int_string_Add.snd  hp25)) ?_))
 rintro _ _ ⟨rfl,rfl⟩
 refine qS 62 rfl (oC · rfl rfl) (rE ?_)
 try dsimp only [w0,w1,w2,w3]
 rcases ifc h with ⟨hc26,h⟩ | ⟨hc26,h⟩
 ·refine q_cond_t rfl (.tmp rfl) hc26 (qQ rfl (qR rfl rfl (qS 6 rfl (ok_assign · (.const fun _ => .ptrNil)) (qS 7 rfl (ok_assign · (.int _ _)) (rE ?_)))))
  cases h
  exact q_ret rfl at_.at_ rfl (res2 rfl rfl rfl) ⟨rfl,rfl⟩
 ·refine q_cond_f rfl (.tmp rfl) (bfalse hc26) (q_skipc rfl (qQ rfl (qQ rfl (qR rfl rfl (qS 63 rfl (oM · rfl) (qS 64 rfl (ok_not · (.tmp rfl)) (rE ?_)))))))
  try dsimp only [w0,w1,w2,w3]
  rcases ifc h with ⟨hc27,h⟩ | ⟨hc27,h⟩
  ·obtain ⟨p28,hp28,h⟩ := bindo h
   obtain ⟨p29,hp29,h⟩ := bindo h
   refine q_cond_t rfl (.tmp rfl) hc27 (qR rfl rfl (qS 65 rfl (oM · rfl) (qS 66 rfl (oN · rfl hp28) (qS 67 rfl (oF · fi83_1 (by decide) rfl rfl) (qS 68 rfl (oL · sc75 rfl rfl (ldP_out hp29)) ?_)))))
   try dsimp only [w0,w1,w2,w3]
   obtain ⟨p30,hp30,h⟩ := bindo h
   refine qS 69 rfl (oM · rfl) (qS 70 rfl (oM · rfl) (q_call (dst := some 71) rfl (.func _) (.cons (.tmp rfl) (.cons (.tmp rfl) (.cons (.tmp rfl) Evs.nil))) (HInv.static book_Book_room_Room_Put.at_ book_Book_room_Room_Put.body (book_Book_room_Room_Put.snd hD hH hp30)) ?_))
   rintro _ _ ⟨rfl,rfl⟩
   refine rE ?_
   try dsimp only [w0,w1,w2,w3]
   exact J2_snd hD hH h
  ·refine q_cond_f rfl (.tmp rfl) (bfalse hc27) (q_skipc rfl ?_)
   try dsimp only [w0,w1,w2,w3]
   exact J2_snd hD hH h
def J0 (D : Dp) (H : Hd) (k : Nat) (y0 : HP) (y1 : Int) (y2 : (List UInt8)) (y8 : HP) (y9 : Bool) (y10 : (List UInt8)) (y33 : Bool) (S : HS) : Option ((HP × Int) × HS) :=
 (if y33 = true then
 some ((y8,0),S) else
 (if (!y9) = true then
 (y0.bind fun p12 =>
 ((S.ldI .i64 (HA.fld (HA.fld p12 0) 8)).bind fun p13 =>
 ((room_New.f k y2 p13 S).bind fun p14 =>
 (y0.bind fun p15 =>
 ((p14.2.ldP (HA.fld p15 15)).bind fun p16 =>
 ((book_Book_room_Room_Len.f p16 p14.2).bind fun p17 =>
 (y0.bind fun p18 =>
 ((p17.2.ldI .i64 (HA.fld (HA.fld p18 0) 7)).bind fun p19 =>
 ((p14.2.ldI .i64 (HA.fld (HA.fld p18 0) 7)).bind fun p20 =>
 (if p20 = p19 then
 (if p17.1 ≥ p19 then
 some ((none,405),p17.2) else
 J1 D H k y0 y1 y2 p14.1 y9 y10 p17.2) else none)))))))))) else
 J1 D H k y0 y1 y2 y8 y9 y10 S))
theorem J0_snd (hD : DS base W0 D) (hH : HT base W0 β0 H)  {y0 : HP} {y1 : Int} {y2 : (List UInt8)} {y8 : HP} {y9 : Bool} {y10 : (List UInt8)} {y33 : Bool} {S : HS} {p : (HP × Int) × HS} (h : J0 D H k y0 y1 y2 y8 y9 y10 y33 S = some p) : HR base W0 β0 12 none [.code c17,.code c22] ⟨[(.ptr y0),(.int .i64 y1),(.str y2),Gd,Ge,Gf,Gg,Gh,(.ptr y8),(.bool y9),(.str y10),Gl,Gm,Gn,Go,Gp,Gq,Gr,Gs,Gt,Gu,Gv,Gw,Gx,Gy,Gz,Ka,Kb,Kc,Kd,Ke,Kf,Kg,(.bool y33),Ki,Kj,Kk,Kl,Km,Kn,Ko,Kp,Kq,Kr,Ks,Kt,Ku,Kv,Kw,Kx,Ky,Kz,Ma,Mb,Mc,Md,Me,Mf,Mg,Mh,Mi,Mj,Mk,Ml,Mm,Mn,Mo,Mp,Mq,Mr,Ms,Mt,Mu,Mv,Mw,Mx,My,Mz],[]⟩ S (fun v S1 => v = (.tup [(.ptr p.1.1),(.int .i64 p.1.2)]) ∧ S1 = p.2) := by
 unfold J0 at h
 rcases ifc h with ⟨hc10,h⟩ | ⟨hc10,h⟩
 ·refine q_cond_t rfl (.tmp rfl) hc10 (qQ rfl (qR rfl rfl (qS 34 rfl (oM · rfl) (qS 6 rfl (oA · rfl) (qS 7 rfl (ok_assign · (.int _ _)) (rE ?_))))))
  cases h
  exact q_ret rfl at_.at_ rfl (res2 rfl rfl rfl) ⟨rfl,rfl⟩
 ·refine q_cond_f rfl (.tmp rfl) (bfalse hc10) (q_skipc rfl (qQ rfl (qQ rfl (qR rfl rfl (qS 35 rfl (oM · rfl) (qS 36 rfl (ok_not · (.tmp rfl)) (rE ?_)))))))
  try dsimp only [w0,w1,w2,w3]
  rcases ifc h with ⟨hc11,h⟩ | ⟨hc11,h⟩
  ·obtain ⟨p12,hp12,h⟩ := bindo h
   refine q_cond_t rfl (.tmp rfl) hc11 (qQ rfl (qR rfl rfl (qS 37 rfl (oM · rfl) (qS 38 rfl (oM · rfl) (qS 39 rfl (oN · rfl hp12) (qS 40 rfl (oF · fi83_0 (by decide) rfl rfl) ?_))))))
   try dsimp only [w0,w1,w2,w3]
   obtain ⟨p13,hp13,h⟩ := bindo h
   obtain ⟨p14,hp14,h⟩ := bindo h
   refine qS 41 rfl (oF · fi28_8 (by decide) rfl rfl) (qS 42 rfl (oL · sc3 rfl rfl (ldI_out hp13)) (q_call (dst := some 43) rfl (.func _) (.cons (.tmp rfl) (.cons (.tmp rfl) Evs.nil)) (HInv.static room_New.at_ room_New.body (room_New.snd  hp14)) ?_))
   rintro _ _ ⟨rfl,rfl⟩
   refine qS 8 rfl (oA · rfl) (rE ?_)
   try dsimp only [w0,w1,w2,w3]
   refine qQ rfl ?_
   refine x_start (cls := [0,0,0,1,2,0,0,0,0,3,0]) (rk := [0,1,2,3,4,5,6,7,8,9,10]) rfl (by kernel_rfl) ?_
   refine xf 44 [0] rfl (oM · rfl) ?_
   obtain ⟨p15,hp15,h⟩ := bindo h
   refine xf 45 [44] rfl (oN · rfl hp15) ?_
   refine xf 46 [45] rfl (oF · fi83_1 (by decide) rfl rfl) ?_
   obtain ⟨p16,hp16,h⟩ := bindo h
   refine xr 47 [46] rfl (oL · sc75 rfl rfl (ldP_out hp16)) ?_
   try dsimp only [w0,w1,w2,w3]
   obtain ⟨p17,hp17,h⟩ := bindo h
   refine x_goE (e_call (dst := some 48) (ts := [47]) rfl (by kernel_rfl) (.func _) (.cons (.tmp rfl) Evs.nil) (HInv.static book_Book_room_Room_Len.at_ book_Book_room_Room_Len.body (book_Book_room_Room_Len.snd  hp17))) rfl trivial ?_
   refine xf 49 [0] rfl (oM · rfl) ?_
   obtain ⟨p18,hp18,h⟩ := bindo h
   refine xf 50 [49] rfl (oN · rfl hp18) ?_
   refine xf 51 [50] rfl (oF · fi83_0 (by decide) rfl rfl) ?_
   try dsimp only [w0,w1,w2,w3]
   refine xf 52 [51] rfl (oF · fi28_7 (by decide) rfl rfl) ?_
   obtain ⟨p19,hp19,h⟩ := bindo h
   obtain ⟨p20,hp20,h⟩ := bindo h
   obtain ⟨hg21,h⟩ := gd h
   refine x_late (r_op (dst := some 53) (ts := [52]) rfl (by intro _ _ h; cases h) (by kernel_rfl) (fun _ ho => ok_load_s ho sc3 (.tmp rfl) rfl (ldI_out hp19))) rfl ⟨.inr (l_op (dst := some 53) (ts := [52]) rfl (by intro _ _ h; cases h) (by kernel_rfl) (fun _ ho => ok_load_s ho sc3 (.tmp rfl) rfl (ldI_out (hp20.trans (congrArg some hg21))))),trivial⟩ ?_
   refine xf 54 [48,53] rfl (oB · rfl rfl rfl) ?_
   refine x_rest rfl ?_
   refine rE ?_
   try dsimp only [w0,w1,w2,w3]
   rcases ifc h with ⟨hc22,h⟩ | ⟨hc22,h⟩
   ·refine q_cond_t rfl (.tmp rfl) (decide_eq_true hc22) (qQ rfl (qR rfl rfl (qS 6 rfl (ok_assign · (.const fun _ => .ptrNil)) (qS 7 rfl (ok_assign · (.int _ _)) (rE ?_)))))
    cases h
    exact q_ret rfl at_.at_ rfl (res2 rfl rfl rfl) ⟨rfl,rfl⟩
   ·refine q_cond_f rfl (.tmp rfl) (decide_eq_false hc22) (q_skipc rfl ?_)
    try dsimp only [w0,w1,w2,w3]
    exact J1_snd hD hH h
  ·refine q_cond_f rfl (.tmp rfl) (bfalse hc11) (q_skipc rfl ?_)
   try dsimp only [w0,w1,w2,w3]
   exact J1_snd hD hH h
def f (D : Dp) (H : Hd) (k : Nat) (x0 : HP) (x1 : Int) (x2 : (List UInt8)) (S : HS) : Option ((HP × Int) × HS) :=
 (if (Option.isNone x0) = true then
 some ((none,405),S) else
 (x0.bind fun p2 =>
 ((S.ldP (HA.fld p2 15)).bind fun p3 =>
 ((book_Book_room_Room_Get.f D H k p3 x2 S).bind fun p4 =>
 ((fold_Text.f k x2 p4.2).bind fun p5 =>
 (if p4.1.2 = true then
 (x0.bind fun p7 =>
 ((p5.2.ldP (HA.fld p7 16)).bind fun p8 =>
 ((pair_Rel_int_string_Has.f k p8 x1 p5.1 p5.2).bind fun p9 =>
 J0 D H k x0 x1 x2 p4.1.1 p4.1.2 p5.1 p9.1 p9.2))) else
 J0 D H k x0 x1 x2 p4.1.1 p4.1.2 p5.1 false p5.2))))))
theorem snd {x0 : HP} {x1 : Int} {x2 : (List UInt8)} {S : HS} (hD : DS base W0 D) (hH : HT base W0 β0 H)  {p : (HP × Int) × HS} (h : f D H k x0 x1 x2 S = some p) : HCall Tryz.prog base W0 β0 12 [(.ptr x0),(.int .i64 x1),(.str x2)] S (fun v S1 => v = (.tup [(.ptr p.1.1),(.int .i64 p.1.2)]) ∧ S1 = p.2) := by
 unfold f at h
 refine HCall.of_run at_.at_ body ?_
 show HR base W0 β0 12 none [.code c0] ⟨[(.ptr x0),(.int .i64 x1),(.str x2),τ,τ,τ,τ,τ,τ,τ,τ,τ,τ,τ,τ,τ,τ,τ,τ,τ,τ,τ,τ,τ,τ,τ,τ,τ,τ,τ,τ,τ,τ,τ,τ,τ,τ,τ,τ,τ,τ,τ,τ,τ,τ,τ,τ,τ,τ,τ,τ,τ,τ,τ,τ,τ,τ,τ,τ,τ,τ,τ,τ,τ,τ,τ,τ,τ,τ,τ,τ,τ,τ,τ,τ,τ,τ,τ],[]⟩ S _
 refine qQ rfl (qR rfl rfl (qS 6 rfl (ok_assign · (.const fun _ => .ptrNil)) (qS 7 rfl (ok_assign · (.int _ _)) (rE ?_))))
 try dsimp only [w0,w1,w2,w3]
 refine qQ rfl (qQ rfl (qR rfl rfl (qS 11 rfl (oM · rfl) (qS 12 rfl (ok_nil_ptr · tu25 (.tmp rfl) (.inl ⟨rfl,rfl⟩)) (rE ?_)))))
 try dsimp only [w0,w1,w2,w3]
 rcases ifc h with ⟨hc1,h⟩ | ⟨hc1,h⟩
 ·refine q_cond_t rfl (.tmp rfl) hc1 (qQ rfl (qR rfl rfl (qS 6 rfl (ok_assign · (.const fun _ => .ptrNil)) (qS 7 rfl (ok_assign · (.int _ _)) (rE ?_)))))
  cases h
  exact q_ret rfl at_.at_ rfl (res2 rfl rfl rfl) ⟨rfl,rfl⟩
 ·obtain ⟨p2,hp2,h⟩ := bindo h
  obtain ⟨p3,hp3,h⟩ := bindo h
  refine q_cond_f rfl (.tmp rfl) (bfalse hc1) (q_skipc rfl (qQ rfl (qR rfl rfl (qS 14 rfl (oM · rfl) (qS 15 rfl (oN · rfl hp2) (qS 16 rfl (oF · fi83_1 (by decide) rfl rfl) (qS 17 rfl (oL · sc75 rfl rfl (ldP_out hp3)) ?_)))))))
  try dsimp only [w0,w1,w2,w3]
  obtain ⟨p4,hp4,h⟩ := bindo h
  refine qS 18 rfl (oM · rfl) (q_call (dst := some 19) rfl (.func _) (.cons (.tmp rfl) (.cons (.tmp rfl) Evs.nil)) (HInv.static book_Book_room_Room_Get.at_ book_Book_room_Room_Get.body (book_Book_room_Room_Get.snd hD hH hp4)) ?_)
  rintro _ _ ⟨rfl,rfl⟩
  refine qS 13 rfl (oM · rfl) (qS 20 rfl (ok_extract · (.tmp rfl) rfl) ?_)
  try dsimp only [w0,w1,w2,w3]
  refine qS 21 rfl (ok_extract · (.tmp rfl) rfl) (qS 8 rfl (oA · rfl) (qS 9 rfl (oA · rfl) (rE ?_)))
  try dsimp only [w0,w1,w2,w3]
  obtain ⟨p5,hp5,h⟩ := bindo h
  refine qQ rfl (qR rfl rfl (qS 22 rfl (oM · rfl) (q_call (dst := some 23) rfl (.func _) (.cons (.tmp rfl) Evs.nil) (HInv.static fold_Text.at_ fold_Text.body (fold_Text.snd  hp5)) ?_)))
  rintro _ _ ⟨rfl,rfl⟩
  refine qS 10 rfl (oA · rfl) (rE ?_)
  try dsimp only [w0,w1,w2,w3]
  refine qQ rfl (qQ rfl (qR rfl rfl (qS 24 rfl (oM · rfl) (qS 25 rfl (oM · rfl) ?_))))
  rcases ifc h with ⟨hc6,h⟩ | ⟨hc6,h⟩
  ·obtain ⟨p7,hp7,h⟩ := bindo h
   refine qG 25 26 rfl hc6 (oM · rfl) (qG 25 27 rfl hc6 (oN · rfl hp7) ?_)
   try dsimp only [w0,w1,w2,w3]
   obtain ⟨p8,hp8,h⟩ := bindo h
   refine qG 25 28 rfl hc6 (oF · fi83_2 (by decide) rfl rfl) (qG 25 29 rfl hc6 (oL · sc79 rfl rfl (ldP_out hp8)) (qG 25 30 rfl hc6 (oM · rfl) (qG 25 31 rfl hc6 (oM · rfl) ?_)))
   try dsimp only [w0,w1,w2,w3]
   obtain ⟨p9,hp9,h⟩ := bindo h
   refine q_call_g (t := 25) (dst := some 32) rfl rfl rfl hc6 (.func _) (.cons (.tmp rfl) (.cons (.tmp rfl) (.cons (.tmp rfl) Evs.nil))) (HInv.static pair_Rel_int_string_Has.at_ pair_Rel_int_string_Has.body (pair_Rel_int_string_Has.snd  hp9)) ?_
   rintro _ _ ⟨rfl,rfl⟩
   refine qS 33 rfl (ok_pick_tt · (.tmp rfl) hc6 (.tmp rfl)) (rE ?_)
   try dsimp only [w0,w1,w2,w3]
   exact J0_snd hD hH h
  ·refine q_skip (dst := some 26) (t := 25) rfl rfl rfl (bfalse hc6) (q_skip (dst := some 27) (t := 25) rfl rfl rfl (bfalse hc6) ?_)
   try dsimp only [w0,w1,w2,w3]
   refine q_skip (dst := some 28) (t := 25) rfl rfl rfl (bfalse hc6) (q_skip (dst := some 29) (t := 25) rfl rfl rfl (bfalse hc6) (q_skip (dst := some 30) (t := 25) rfl rfl rfl (bfalse hc6) (q_skip (dst := some 31) (t := 25) rfl rfl rfl (bfalse hc6) ?_)))
   try dsimp only [w0,w1,w2,w3]
   refine q_skip (dst := some 32) (t := 25) rfl rfl rfl (bfalse hc6) (qS 33 rfl (ok_pick_ff · (.tmp rfl) (bfalse hc6) (.bool _)) (rE ?_))
   try dsimp only [w0,w1,w2,w3]
   exact J0_snd hD hH h
end rooms_Rooms_Join
namespace pair_Rel_int_string_Of_1
theorem at_ : FnAt Tryz.prog 93 Tryz.f93 := ⟨Tryz.func93,by kernel_rfl⟩
def c0 : Code := .skip
theorem body : Tryz.f93.body = some c0 := by kernel_rfl
def f (x0 : HV) : Option (Unit) :=
 some ()
theorem snd {x0 : HV} {S : HS}  {p : Unit} (h : f x0 = some p) : HCall Tryz.prog base W0 β0 93 [x0] S (fun v S1 => v = (.tup []) ∧ S1 = S) := by
 unfold f at h
 refine HCall.of_run at_.at_ body ?_
 show HR base W0 β0 93 none [.code c0] ⟨[x0,τ],[]⟩ S _
 cases h
 exact q_skipc rfl (q_end at_.at_ rfl (res0 rfl) ⟨rfl,rfl⟩)
end pair_Rel_int_string_Of_1
namespace slices_Clone_string_string
theorem at_ : FnAt Tryz.prog 131 Tryz.f131 := ⟨Tryz.func131,by kernel_rfl⟩
def d0 := (Tryz.f131.body).getD .skip
def r1 := kR (kA d0)
def r4 := kR (kA (kA (kB d0)))
def r7 := kR (kA (kA (kB (kA (kB d0)))))
def r11 := kR (kA (kB (kB d0)))
def c0 : Code := .seq (.region 0 r1 false) (.seq (.seq (.region 1 r4 false) (.cond (.tmp 4) (.seq (.region 2 r7 false) .ret) .skip)) (.seq (.region 3 r11 false) .ret))
theorem body : Tryz.f131.body = some c0 := by kernel_rfl
def f (x0 : Sl) (S : HS) : Option ((Sl) × HS) :=
 (if (Option.isNone (Sl.a x0)) = true then
 some (Sl.nil,S) else
 (letv (HS.lit S [] 1) fun p2 =>
 ((p2.2.rows x0 1).bind fun p3 =>
 ((p2.2.app (p2.1) p3 1).bind fun p4 =>
 some ((p4.1),(p4.2))))))
theorem snd {x0 : Sl} {S : HS}  {p : (Sl) × HS} (h : f x0 S = some p) : HCall Tryz.prog base W0 β0 131 [(Sl.hv x0)] S (fun v S1 => v = (Sl.hv p.1) ∧ S1 = p.2) := by
 unfold f at h
 refine HCall.of_run at_.at_ body ?_
 show HR base W0 β0 131 none [.code c0] ⟨[(Sl.hv x0),τ,τ,τ,τ,τ,τ,τ],[]⟩ S _
 refine qQ rfl (qR rfl rfl (qS 2 rfl (ok_assign · (.const fun _ => .slNil none)) (rE ?_)))
 try dsimp only [w0,w1,w2,w3]
 refine qQ rfl (qQ rfl (qR rfl rfl (qS 3 rfl (oM · rfl) (qS 4 rfl (ok_nil_sl · tu57 (.tmp rfl) (.inl ⟨rfl,rfl⟩)) (rE ?_)))))
 try dsimp only [w0,w1,w2,w3]
 rcases ifc h with ⟨hc1,h⟩ | ⟨hc1,h⟩
 ·refine q_cond_t rfl (.tmp rfl) hc1 (qQ rfl (qR rfl rfl (qS 2 rfl (ok_assign · (.const fun _ => .slNil none)) (rE ?_))))
  cases h
  exact q_ret rfl at_.at_ rfl (res1 rfl rfl) ⟨rfl,rfl⟩
 ·obtain ⟨p2,hp2,h⟩ := leto h
  obtain ⟨p3,hp3,h⟩ := bindo h
  obtain ⟨p4,hp4,h⟩ := bindo h
  refine q_cond_f rfl (.tmp rfl) (bfalse hc1) (q_skipc rfl (qQ rfl (qR rfl rfl (qS 5 rfl (ok_buildSlice_s (xs := []) el57 · rfl rfl (by decide) Evs.nil rfl rfl hp2) (qS 6 rfl (oM · rfl) (qS 7 rfl (ok_append (s := (p2.1)) (s1 := x0) el57 · rfl rfl ⟨_,tu57⟩ (.tmp rfl) (.tmp rfl) hp3 hp4) (qS 2 rfl (oA · rfl) (rE ?_))))))))
  cases h
  exact q_ret rfl at_.at_ rfl (res1 rfl rfl) ⟨rfl,rfl⟩
end slices_Clone_string_string
namespace set_Set_string_List
theorem at_ : FnAt Tryz.prog 121 Tryz.f121 := ⟨Tryz.func121,by kernel_rfl⟩
def d0 := (Tryz.f121.body).getD .skip
def r1 := kR (kA d0)
def r4 := kR (kA (kA (kB d0)))
def r7 := kR (kA (kA (kB (kA (kB d0)))))
def r11 := kR (kA (kB (kB d0)))
def c0 : Code := .seq (.region 0 r1 false) (.seq (.seq (.region 1 r4 false) (.cond (.tmp 4) (.seq (.region 2 r7 false) .ret) .skip)) (.seq (.region 3 r11 false) .ret))
theorem body : Tryz.f121.body = some c0 := by kernel_rfl
def f (x0 : HP) (S : HS) : Option ((Sl) × HS) :=
 (if (Option.isNone x0) = true then
 some (Sl.nil,S) else
 (x0.bind fun p2 =>
 ((S.ldSl (HA.fld p2 0)).bind fun p3 =>
 ((slices_Clone_string_string.f p3 S).bind fun p4 =>
 some (p4.1,p4.2)))))
theorem snd {x0 : HP} {S : HS}  {p : (Sl) × HS} (h : f x0 S = some p) : HCall Tryz.prog base W0 β0 121 [(.ptr x0)] S (fun v S1 => v = (Sl.hv p.1) ∧ S1 = p.2) := by
 unfold f at h
 refine HCall.of_run at_.at_ body ?_
 show HR base W0 β0 121 none [.code c0] ⟨[(.ptr x0),τ,τ,τ,τ,τ,τ,τ,τ,τ],[]⟩ S _
 refine qQ rfl (qR rfl rfl (qS 2 rfl (ok_assign · (.const fun _ => .slNil none)) (rE ?_)))
 try dsimp only [w0,w1,w2,w3]
 refine qQ rfl (qQ rfl (qR rfl rfl (qS 3 rfl (oM · rfl) (qS 4 rfl (ok_nil_ptr · tu134 (.tmp rfl) (.inl ⟨rfl,rfl⟩)) (rE ?_)))))
 try dsimp only [w0,w1,w2,w3]
 rcases ifc h with ⟨hc1,h⟩ | ⟨hc1,h⟩
 ·refine q_cond_t rfl (.tmp rfl) hc1 (qQ rfl (qR rfl rfl (qS 2 rfl (ok_assign · (.const fun _ => .slNil none)) (rE ?_))))
  cases h
  exact q_ret rfl at_.at_ rfl (res1 rfl rfl) ⟨rfl,rfl⟩
 ·obtain ⟨p2,hp2,h⟩ := bindo h
  obtain ⟨p3,hp3,h⟩ := bindo h
  refine q_cond_f rfl (.tmp rfl) (bfalse hc1) (q_skipc rfl (qQ rfl (qR rfl rfl (qS 5 rfl (oM · rfl) (qS 6 rfl (oN · rfl hp2) (qS 7 rfl (oF · fi159_0 (by decide) rfl rfl) (qS 8 rfl (oL · sc57 rfl rfl (ldSl_out hp3)) ?_)))))))
  try dsimp only [w0,w1,w2,w3]
  obtain ⟨p4,hp4,h⟩ := bindo h
  refine q_call (dst := some 9) rfl (.func _) (.cons (.tmp rfl) Evs.nil) (HInv.static slices_Clone_string_string.at_ slices_Clone_string_string.body (slices_Clone_string_string.snd  hp4)) ?_
  rintro _ _ ⟨rfl,rfl⟩
  refine qS 2 rfl (oA · rfl) (rE ?_)
  cases h
  exact q_ret rfl at_.at_ rfl (res1 rfl rfl) ⟨rfl,rfl⟩
end set_Set_string_List
namespace slices_Values_string_string_1
theorem at_ : FnAt Tryz.prog 130 Tryz.f130 := ⟨Tryz.func130,by kernel_rfl⟩
def d0 := (Tryz.f130.body).getD .skip
def r1 := kR (kA d0)
def d4 := kA (kA (kB d0))
def r5 := kR (kA d4)
def r13 := kR (kA (kA (kA (kB (kB d4)))))
def r15 := kR (kA (kB (kA (kA (kB (kB d4))))))
def r19 := kR (kB (kB (kB d4)))
def c4 : Code := .seq (.region 1 r5 false) (.seq (.cond (.tmp 8) .skip (.exit 0)) (.seq (.block 1 (.seq (.region 2 r13 false) (.seq (.region 3 r15 false) (.cond (.tmp 14) .ret .skip)))) (.region 4 r19 false)))
def c0 : Code := .seq (.region 0 r1 false) (.block 0 (.loop c4))
theorem body : Tryz.f130.body = some c0 := by kernel_rfl
def L0 (D : Dp) (H : Hd) (k : Nat) : Nat → HV → Sl → Int → Int → HS → Option ((Unit) × HS)
 | 0,_,_,_,_,_ => none
 | n + 1,y0,y5,y6,y7,S =>
  (if y7 < y6 then
  ((S.idx y5 y7 1).bind fun p4 =>
  ((S.ldS p4).bind fun p5 =>
  ((D H y0 [(.str p5)] S).bind fun p6 =>
  ((dB p6.1).bind fun p7 =>
  (if (!p7) = true then
  some ((),p6.2) else
  (L0 D H k n) y0 y5 y6 (w64 (y7 + 1)) p6.2))))) else
  some ((),S))
theorem L0_snd (hD : DS base W0 D) (hH : HT base W0 β0 H)  : ∀ {n : Nat} ⦃y0 : HV⦄ ⦃y5 : Sl⦄ ⦃y6 : Int⦄ ⦃y7 : Int⦄ ⦃S : HS⦄ ⦃p : (Unit) × HS⦄ ⦃Gb Gc Gd Ge Gi Gj Gk Gl Gm Gn Go Gp : HV⦄,L0 D H k n y0 y5 y6 y7 S = some p → HR base W0 β0 130 none [.inLoop c4,.inBlock 0] ⟨[y0,Gb,Gc,Gd,Ge,(Sl.hv y5),(.int .i64 y6),(.int .i64 y7),Gi,Gj,Gk,Gl,Gm,Gn,Go,Gp],[]⟩ S (fun v S1 => v = (.tup []) ∧ S1 = p.2) := by
 intro n
 induction n with
 | zero => intro _ _ _ _ _ _ _ _ _ _ _ _ _ _ _ _ _ _ h; cases h
 | succ n ih =>
  intro y0 y5 y6 y7 S p Gb Gc Gd Ge Gi Gj Gk Gl Gm Gn Go Gp h
  simp only [L0] at h
  refine hr_inLoop (qQ rfl (qR rfl rfl (qS 8 rfl (oB · rfl rfl rfl) (rE ?_))))
  try dsimp only [w0,w1,w2,w3]
  refine qQ rfl ?_
  rcases ifc h with ⟨hc3,h⟩ | ⟨hc3,h⟩
  ·obtain ⟨p4,hp4,h⟩ := bindo h
   obtain ⟨p5,hp5,h⟩ := bindo h
   refine q_cond_t rfl (.tmp rfl) (decide_eq_true hc3) (q_skipc rfl (qQ rfl (q_block rfl (qQ rfl (qR rfl rfl (qS 9 rfl (oX (s := y5) · tu57 sz9 rfl rfl hp4) (qS 10 rfl (oL · sc9 rfl rfl (ldS_out hp5)) (qS 4 rfl (oA · rfl) (rE ?_)))))))))
   try dsimp only [w0,w1,w2,w3]
   obtain ⟨p6,hp6,h⟩ := bindo h
   obtain ⟨p7,hp7,h⟩ := bindo h
   refine qQ rfl (qR rfl rfl (qS 11 rfl (oM · rfl) (qS 12 rfl (oM · rfl) (q_call (dst := some 13) rfl (.tmp rfl) (.cons (.tmp rfl) Evs.nil) (hD _ _ hH _ _ _ _ _ hp6) ?_))))
   rintro _ _ ⟨rfl,rfl⟩
   rw [dB_out hp7]
   refine qS 14 rfl (ok_not · (.tmp rfl)) (rE ?_)
   try dsimp only [w0,w1,w2,w3]
   rcases ifc h with ⟨hc8,h⟩ | ⟨hc8,h⟩
   ·cases h
    exact q_cond_t rfl (.tmp rfl) hc8 (q_ret rfl at_.at_ rfl (res0 rfl) ⟨rfl,rfl⟩)
   ·refine q_cond_f rfl (.tmp rfl) (bfalse hc8) (q_skipc rfl (hr_inBlock (qR rfl rfl (qS 15 rfl (oC · rfl rfl) (qS 7 rfl (oM · rfl) (rE ?_))))))
    try dsimp only [w0,w1,w2,w3]
    exact ih h
  ·cases h
   exact q_cond_f rfl (.tmp rfl) (decide_eq_false hc3) (q_exit rfl rfl (q_end at_.at_ rfl (res0 rfl) ⟨rfl,rfl⟩))
def f (D : Dp) (H : Hd) (k : Nat) (x0 : HV) (x1 : HP) (S : HS) : Option ((Unit) × HS) :=
 (x1.bind fun p1 =>
 ((S.ldSl p1).bind fun p2 =>
 L0 D H k k x0 p2 (Sl.len p2 : Int) 0 S))
theorem snd {x0 : HV} {x1 : HP} {S : HS} (hD : DS base W0 D) (hH : HT base W0 β0 H)  {p : (Unit) × HS} (h : f D H k x0 x1 S = some p) : HCall Tryz.prog base W0 β0 130 [x0,(.ptr x1)] S (fun v S1 => v = (.tup []) ∧ S1 = p.2) := by
 unfold f at h
 refine HCall.of_run at_.at_ body ?_
 show HR base W0 β0 130 none [.code c0] ⟨[x0,(.ptr x1),τ,τ,τ,τ,τ,τ,τ,τ,τ,τ,τ,τ,τ,τ],[]⟩ S _
 obtain ⟨p1,hp1,h⟩ := bindo h
 obtain ⟨p2,hp2,h⟩ := bindo h
 refine qQ rfl (qR rfl rfl (qS 5 rfl (oL · sc57 rfl hp1 (ldSl_out hp2)) (qS 6 rfl (ok_len_sl (q := Sl.a p2) (n := Sl.len p2) (z := Sl.cap p2) · rfl tu57 (.tmp rfl)) (qS 7 rfl (ok_move · (.int _ _)) (rE ?_)))))
 try dsimp only [w0,w1,w2,w3]
 refine q_block rfl (q_loop rfl ?_)
 try dsimp only [w0,w1,w2,w3]
 exact L0_snd hD hH h
end slices_Values_string_string_1
namespace slices_Values_string_string
theorem at_ : FnAt Tryz.prog 120 Tryz.f120 := ⟨Tryz.func120,by kernel_rfl⟩
def d0 := (Tryz.f120.body).getD .skip
def r1 := kR (kA d0)
def r3 := kR (kA (kB d0))
def c0 : Code := .seq (.region 0 r1 false) (.seq (.region 1 r3 false) .ret)
theorem body : Tryz.f120.body = some c0 := by kernel_rfl
def f (x0 : Sl) (S : HS) : Option ((HV) × HS) :=
 (letv (HS.new S (.cells 1 [[(Sl.hv x0)]] true)) fun p1 =>
 some ((HV.fn (.func 130) [] [(.ptr (some (HA.cell0 S.next)))]),p1))
theorem snd {x0 : Sl} {S : HS}  {p : (HV) × HS} (h : f x0 S = some p) : HCall Tryz.prog base W0 β0 120 [(Sl.hv x0)] S (fun v S1 => v = p.1 ∧ S1 = p.2) := by
 unfold f at h
 refine HCall.of_run at_.at_ body ?_
 show HR base W0 β0 120 none [.code c0] ⟨[(Sl.hv x0),τ,τ,τ],[]⟩ S _
 obtain ⟨p1,hp1,h⟩ := leto h
 refine qQ rfl (qR rfl rfl (qS 1 rfl (ok_box_e · (.tmp rfl) (Nat.zero_lt_succ _) rfl hp1) (qS 2 rfl (ok_assign · (.const fun _ => .nilFn)) (rE ?_))))
 try dsimp only [w0,w1,w2,w3]
 refine qQ rfl (qR rfl rfl (qS 3 rfl (ok_makeFunc · Evs.nil (.cons (.tmp rfl) Evs.nil)) (qS 2 rfl (oA · rfl) (rE ?_))))
 cases h
 exact q_ret rfl at_.at_ rfl (res1 rfl rfl) ⟨rfl,rfl⟩
end slices_Values_string_string
namespace set_Set_string_All
theorem at_ : FnAt Tryz.prog 94 Tryz.f94 := ⟨Tryz.func94,by kernel_rfl⟩
def d0 := (Tryz.f94.body).getD .skip
def r1 := kR (kA d0)
def r3 := kR (kA (kB d0))
def c0 : Code := .seq (.region 0 r1 false) (.seq (.region 1 r3 false) .ret)
theorem body : Tryz.f94.body = some c0 := by kernel_rfl
def f (x0 : HP) (S : HS) : Option ((HV) × HS) :=
 ((set_Set_string_List.f x0 S).bind fun p1 =>
 ((slices_Values_string_string.f p1.1 p1.2).bind fun p2 =>
 some (p2.1,p2.2)))
theorem snd {x0 : HP} {S : HS}  {p : (HV) × HS} (h : f x0 S = some p) : HCall Tryz.prog base W0 β0 94 [(.ptr x0)] S (fun v S1 => v = p.1 ∧ S1 = p.2) := by
 unfold f at h
 refine HCall.of_run at_.at_ body ?_
 show HR base W0 β0 94 none [.code c0] ⟨[(.ptr x0),τ,τ,τ,τ,τ],[]⟩ S _
 refine qQ rfl (qR rfl rfl (qS 2 rfl (ok_assign · (.const fun _ => .nilFn)) (rE ?_)))
 try dsimp only [w0,w1,w2,w3]
 obtain ⟨p1,hp1,h⟩ := bindo h
 refine qQ rfl (qR rfl rfl (qS 3 rfl (oM · rfl) (q_call (dst := some 4) rfl (.func _) (.cons (.tmp rfl) Evs.nil) (HInv.static set_Set_string_List.at_ set_Set_string_List.body (set_Set_string_List.snd  hp1)) ?_)))
 rintro _ _ ⟨rfl,rfl⟩
 obtain ⟨p2,hp2,h⟩ := bindo h
 refine q_call (dst := some 5) rfl (.func _) (.cons (.tmp rfl) Evs.nil) (HInv.static slices_Values_string_string.at_ slices_Values_string_string.body (slices_Values_string_string.snd  hp2)) ?_
 rintro _ _ ⟨rfl,rfl⟩
 refine qS 2 rfl (oA · rfl) (rE ?_)
 cases h
 exact q_ret rfl at_.at_ rfl (res1 rfl rfl) ⟨rfl,rfl⟩
end set_Set_string_All
namespace pair_Rel_int_string_Of
theorem at_ : FnAt Tryz.prog 62 Tryz.f62 := ⟨Tryz.func62,by kernel_rfl⟩
def d0 := (Tryz.f62.body).getD .skip
def r1 := kR (kA d0)
def r4 := kR (kA (kA (kB d0)))
def r7 := kR (kA (kA (kB (kA (kB d0)))))
def r11 := kR (kA (kB (kB d0)))
def c0 : Code := .seq (.region 0 r1 false) (.seq (.seq (.region 1 r4 false) (.cond (.tmp 6) (.seq (.region 2 r7 false) .ret) .skip)) (.seq (.region 3 r11 false) .ret))
theorem body : Tryz.f62.body = some c0 := by kernel_rfl
def f (x0 : HP) (x1 : Int) (S : HS) : Option ((HV) × HS) :=
 (if (Option.isNone x0) = true then
 some ((HV.fn (.func 93) [] []),S) else
 (x0.bind fun p2 =>
 ((S.ldM (HA.fld p2 2)).bind fun p3 =>
 ((S.look p3 (.int .i64 x1)).bind fun p4 =>
 ((dP (Option.getD p4 (.ptr none))).bind fun p5 =>
 ((set_Set_string_All.f p5 S).bind fun p6 =>
 some (p6.1,p6.2)))))))
theorem snd {x0 : HP} {x1 : Int} {S : HS}  {p : (HV) × HS} (h : f x0 x1 S = some p) : HCall Tryz.prog base W0 β0 62 [(.ptr x0),(.int .i64 x1)] S (fun v S1 => v = p.1 ∧ S1 = p.2) := by
 unfold f at h
 refine HCall.of_run at_.at_ body ?_
 show HR base W0 β0 62 none [.code c0] ⟨[(.ptr x0),(.int .i64 x1),τ,τ,τ,τ,τ,τ,τ,τ,τ,τ,τ,τ],[]⟩ S _
 refine qQ rfl (qR rfl rfl (qS 4 rfl (ok_assign · (.const fun _ => .nilFn)) (rE ?_)))
 try dsimp only [w0,w1,w2,w3]
 refine qQ rfl (qQ rfl (qR rfl rfl (qS 5 rfl (oM · rfl) (qS 6 rfl (ok_nil_ptr · tu79 (.tmp rfl) (.inl ⟨rfl,rfl⟩)) (rE ?_)))))
 try dsimp only [w0,w1,w2,w3]
 rcases ifc h with ⟨hc1,h⟩ | ⟨hc1,h⟩
 ·refine q_cond_t rfl (.tmp rfl) hc1 (qQ rfl (qR rfl rfl (qS 4 rfl (ok_assign · (.func _)) (rE ?_))))
  cases h
  exact q_ret rfl at_.at_ rfl (res1 rfl rfl) ⟨rfl,rfl⟩
 ·obtain ⟨p2,hp2,h⟩ := bindo h
  obtain ⟨p3,hp3,h⟩ := bindo h
  refine q_cond_f rfl (.tmp rfl) (bfalse hc1) (q_skipc rfl (qQ rfl (qR rfl rfl (qS 7 rfl (oM · rfl) (qS 8 rfl (oN · rfl hp2) (qS 9 rfl (oF · fi124_2 (by decide) rfl rfl) (qS 10 rfl (oL · sc121 rfl rfl (ldM_out hp3)) ?_)))))))
  try dsimp only [w0,w1,w2,w3]
  obtain ⟨p4,hp4,h⟩ := bindo h
  obtain ⟨p5,hp5,h⟩ := bindo h
  obtain ⟨p6,hp6,h⟩ := bindo h
  refine qS 11 rfl (oM · rfl) (qS 12 rfl (ok_lookup · tu121 zi134 (fun β => .ptrNil) (keyInt tu3) (.tmp rfl) (.tmp rfl) hp4 (dP_out hp5)) (q_call (dst := some 13) rfl (.func _) (.cons (.tmp rfl) Evs.nil) (HInv.static set_Set_string_All.at_ set_Set_string_All.body (set_Set_string_All.snd  hp6)) ?_))
  rintro _ _ ⟨rfl,rfl⟩
  refine qS 4 rfl (oA · rfl) (rE ?_)
  cases h
  exact q_ret rfl at_.at_ rfl (res1 rfl rfl) ⟨rfl,rfl⟩
end pair_Rel_int_string_Of
namespace rooms_Rooms_Of_1
theorem at_ : FnAt Tryz.prog 63 Tryz.f63 := ⟨Tryz.func63,by kernel_rfl⟩
def d0 := (Tryz.f63.body).getD .skip
def r1 := kR (kA d0)
def d4 := kA (kA (kB d0))
def r5 := kR (kA d4)
def r13 := kR (kA (kA (kA (kB (kB d4)))))
def r15 := kR (kA (kB (kA (kA (kB (kB d4))))))
def r19 := kR (kB (kB (kB d4)))
def c4 : Code := .seq (.region 1 r5 false) (.seq (.cond (.tmp 8) .skip (.exit 0)) (.seq (.block 1 (.seq (.region 2 r13 false) (.seq (.region 3 r15 false) (.cond (.tmp 14) .ret .skip)))) (.region 4 r19 false)))
def c0 : Code := .seq (.region 0 r1 false) (.block 0 (.loop c4))
theorem body : Tryz.f63.body = some c0 := by kernel_rfl
def L0 (D : Dp) (H : Hd) (k : Nat) : Nat → HV → Sl → Int → Int → HS → Option ((Unit) × HS)
 | 0,_,_,_,_,_ => none
 | n + 1,y0,y5,y6,y7,S =>
  (if y7 < y6 then
  ((S.idx y5 y7 1).bind fun p4 =>
  ((S.ldP p4).bind fun p5 =>
  ((D H y0 [(.ptr p5)] S).bind fun p6 =>
  ((dB p6.1).bind fun p7 =>
  (if (!p7) = true then
  some ((),p6.2) else
  (L0 D H k n) y0 y5 y6 (w64 (y7 + 1)) p6.2))))) else
  some ((),S))
theorem L0_snd (hD : DS base W0 D) (hH : HT base W0 β0 H)  : ∀ {n : Nat} ⦃y0 : HV⦄ ⦃y5 : Sl⦄ ⦃y6 : Int⦄ ⦃y7 : Int⦄ ⦃S : HS⦄ ⦃p : (Unit) × HS⦄ ⦃Gb Gc Gd Ge Gi Gj Gk Gl Gm Gn Go Gp : HV⦄,L0 D H k n y0 y5 y6 y7 S = some p → HR base W0 β0 63 none [.inLoop c4,.inBlock 0] ⟨[y0,Gb,Gc,Gd,Ge,(Sl.hv y5),(.int .i64 y6),(.int .i64 y7),Gi,Gj,Gk,Gl,Gm,Gn,Go,Gp],[]⟩ S (fun v S1 => v = (.tup []) ∧ S1 = p.2) := by
 intro n
 induction n with
 | zero => intro _ _ _ _ _ _ _ _ _ _ _ _ _ _ _ _ _ _ h; cases h
 | succ n ih =>
  intro y0 y5 y6 y7 S p Gb Gc Gd Ge Gi Gj Gk Gl Gm Gn Go Gp h
  simp only [L0] at h
  refine hr_inLoop (qQ rfl (qR rfl rfl (qS 8 rfl (oB · rfl rfl rfl) (rE ?_))))
  try dsimp only [w0,w1,w2,w3]
  refine qQ rfl ?_
  rcases ifc h with ⟨hc3,h⟩ | ⟨hc3,h⟩
  ·obtain ⟨p4,hp4,h⟩ := bindo h
   obtain ⟨p5,hp5,h⟩ := bindo h
   refine q_cond_t rfl (.tmp rfl) (decide_eq_true hc3) (q_skipc rfl (qQ rfl (q_block rfl (qQ rfl (qR rfl rfl (qS 9 rfl (oX (s := y5) · tu109 sz36 rfl rfl hp4) (qS 10 rfl (oL · sc36 rfl rfl (ldP_out hp5)) (qS 4 rfl (oA · rfl) (rE ?_)))))))))
   try dsimp only [w0,w1,w2,w3]
   obtain ⟨p6,hp6,h⟩ := bindo h
   obtain ⟨p7,hp7,h⟩ := bindo h
   refine qQ rfl (qR rfl rfl (qS 11 rfl (oM · rfl) (qS 12 rfl (oM · rfl) (q_call (dst := some 13) rfl (.tmp rfl) (.cons (.tmp rfl) Evs.nil) (hD _ _ hH _ _ _ _ _ hp6) ?_))))
   rintro _ _ ⟨rfl,rfl⟩
   rw [dB_out hp7]
   refine qS 14 rfl (ok_not · (.tmp rfl)) (rE ?_)
   try dsimp only [w0,w1,w2,w3]
   rcases ifc h with ⟨hc8,h⟩ | ⟨hc8,h⟩
   ·cases h
    exact q_cond_t rfl (.tmp rfl) hc8 (q_ret rfl at_.at_ rfl (res0 rfl) ⟨rfl,rfl⟩)
   ·refine q_cond_f rfl (.tmp rfl) (bfalse hc8) (q_skipc rfl (hr_inBlock (qR rfl rfl (qS 15 rfl (oC · rfl rfl) (qS 7 rfl (oM · rfl) (rE ?_))))))
    try dsimp only [w0,w1,w2,w3]
    exact ih h
  ·cases h
   exact q_cond_f rfl (.tmp rfl) (decide_eq_false hc3) (q_exit rfl rfl (q_end at_.at_ rfl (res0 rfl) ⟨rfl,rfl⟩))
def f (D : Dp) (H : Hd) (k : Nat) (x0 : HV) (x1 : HP) (S : HS) : Option ((Unit) × HS) :=
 (x1.bind fun p1 =>
 ((S.ldSl p1).bind fun p2 =>
 L0 D H k k x0 p2 (Sl.len p2 : Int) 0 S))
theorem snd {x0 : HV} {x1 : HP} {S : HS} (hD : DS base W0 D) (hH : HT base W0 β0 H)  {p : (Unit) × HS} (h : f D H k x0 x1 S = some p) : HCall Tryz.prog base W0 β0 63 [x0,(.ptr x1)] S (fun v S1 => v = (.tup []) ∧ S1 = p.2) := by
 unfold f at h
 refine HCall.of_run at_.at_ body ?_
 show HR base W0 β0 63 none [.code c0] ⟨[x0,(.ptr x1),τ,τ,τ,τ,τ,τ,τ,τ,τ,τ,τ,τ,τ,τ],[]⟩ S _
 obtain ⟨p1,hp1,h⟩ := bindo h
 obtain ⟨p2,hp2,h⟩ := bindo h
 refine qQ rfl (qR rfl rfl (qS 5 rfl (oL · sc109 rfl hp1 (ldSl_out hp2)) (qS 6 rfl (ok_len_sl (q := Sl.a p2) (n := Sl.len p2) (z := Sl.cap p2) · rfl tu109 (.tmp rfl)) (qS 7 rfl (ok_move · (.int _ _)) (rE ?_)))))
 try dsimp only [w0,w1,w2,w3]
 refine q_block rfl (q_loop rfl ?_)
 try dsimp only [w0,w1,w2,w3]
 exact L0_snd hD hH h
end rooms_Rooms_Of_1
namespace rooms_Rooms_Of
theorem at_ : FnAt Tryz.prog 22 Tryz.f22 := ⟨Tryz.func22,by kernel_rfl⟩
def d0 := (Tryz.f22.body).getD .skip
def r1 := kR (kA d0)
def r3 := kR (kA (kB d0))
def d5 := kA (kB (kB d0))
def r6 := kR (kA d5)
def r9 := kR (kA (kA (kB d5)))
def r12 := kR (kA (kA (kB (kA (kB d5)))))
def d13 := kB (kA (kB (kA (kB d5))))
def r15 := kR (kA (kA d13))
def r16 := kR (kB (kA d13))
def r19 := kR (kA (kB (kB (kB d0))))
def c18 : Code := .seq (.region 7 r19 false) .ret
def c13 : Code := .block 1 (.seq (.region 5 r15 false) (.region 6 r16 false))
def c12 : Code := .region 4 r12 false
def c0 : Code := .seq (.region 0 r1 false) (.seq (.region 1 r3 false) (.seq (.seq (.region 2 r6 false) (.cond (.tmp 10) (.seq (.region 3 r9 false) (.block 0 (.rangeFunc (.tmp 16) #[17] c12 c13))) .skip)) c18))
theorem body : Tryz.f22.body = some c0 := by kernel_rfl
def J0 (D : Dp) (H : Hd) (k : Nat) (l : Nat) (y2 : HP) (y5 : HP) (y17 : (List UInt8)) (S : HS) : Option (HV × HS) :=
 ((S.begin_ l).bind fun p9 =>
 (y2.bind fun p10 =>
 ((p9.ldP p10).bind fun p11 =>
 (p11.bind fun p12 =>
 ((p9.ldP (HA.fld p12 15)).bind fun p13 =>
 ((book_Book_room_Room_Get.f D H k p13 y17 p9).bind fun p14 =>
 (y5.bind fun p15 =>
 ((p14.2.ldSl p15).bind fun p16 =>
 (letv (HS.lit p14.2 [[(.ptr p14.1.1)]] 1) fun p17 =>
 ((p17.2.rows (p17.1) 1).bind fun p18 =>
 ((p17.2.app p16 p18 1).bind fun p19 =>
 (y5.bind fun p20 =>
 ((p19.2.sets p20 [(Sl.hv (p19.1))]).bind fun p21 =>
 (HS.endr p21 l none))))))))))))))
theorem J0_snd {l : Nat} (hD : DS base W0 D) (hH : HT base W0 β0 H)  {y2 : HP} {y5 : HP} {y17 : (List UInt8)} {S : HS} {p : HV × HS} (h : J0 D H k l y2 y5 y17 S = some p) : HR base W0 β0 22 (some l) [.code c12,.beginRound,.code c13] ⟨[Ga,Gb,(.ptr y2),Gd,Ge,(.ptr y5),Gg,Gh,Gi,Gj,Gk,Gl,Gm,Gn,Go,Gp,Gq,(.str y17),Gs,Gt,Gu,Gv,Gw,Gx,Gy,Gz,Ka,Kb,Kc,Kd,Ke,Kf],[]⟩ S (fun v S1 => v = p.1 ∧ S1 = p.2) := by
 unfold J0 at h
 refine qR rfl rfl (qS 6 rfl (oA · rfl) (rE ?_))
 try dsimp only [w0,w1,w2,w3]
 obtain ⟨p9,hp9,h⟩ := bindo h
 refine q_begin hp9 ?_
 obtain ⟨p10,hp10,h⟩ := bindo h
 obtain ⟨p11,hp11,h⟩ := bindo h
 obtain ⟨p12,hp12,h⟩ := bindo h
 obtain ⟨p13,hp13,h⟩ := bindo h
 refine q_block rfl (qQ rfl (qR rfl rfl (qS 19 rfl (oL · sc25 rfl hp10 (ldP_out hp11)) (qS 20 rfl (oN · rfl hp12) (qS 21 rfl (oF · fi83_1 (by decide) rfl rfl) (qS 22 rfl (oL · sc75 rfl rfl (ldP_out hp13)) ?_))))))
 try dsimp only [w0,w1,w2,w3]
 obtain ⟨p14,hp14,h⟩ := bindo h
 refine qS 23 rfl (oM · rfl) (q_call (dst := some 24) rfl (.func _) (.cons (.tmp rfl) (.cons (.tmp rfl) Evs.nil)) (HInv.static book_Book_room_Room_Get.at_ book_Book_room_Room_Get.body (book_Book_room_Room_Get.snd hD hH hp14)) ?_)
 rintro _ _ ⟨rfl,rfl⟩
 refine qS 18 rfl (oM · rfl) (qS 25 rfl (ok_extract · (.tmp rfl) rfl) ?_)
 try dsimp only [w0,w1,w2,w3]
 refine qS 26 rfl (ok_extract · (.tmp rfl) rfl) (qS 7 rfl (oA · rfl) (qS 8 rfl (oA · rfl) (rE ?_)))
 try dsimp only [w0,w1,w2,w3]
 obtain ⟨p15,hp15,h⟩ := bindo h
 obtain ⟨p16,hp16,h⟩ := bindo h
 obtain ⟨p17,hp17,h⟩ := leto h
 obtain ⟨p18,hp18,h⟩ := bindo h
 obtain ⟨p19,hp19,h⟩ := bindo h
 refine qR rfl rfl (qS 27 rfl (oL · sc109 rfl hp15 (ldSl_out hp16)) (qS 28 rfl (oM · rfl) (qS 29 rfl (ok_buildSlice_s (xs := [(.tmp 28)]) el109 · rfl rfl (by decide) (.cons (.tmp rfl) Evs.nil) rfl rfl hp17) (qS 30 rfl (ok_append (s := p16) (s1 := (p17.1)) el109 · rfl rfl ⟨_,tu109⟩ (.tmp rfl) (.tmp rfl) hp18 hp19) ?_))))
 try dsimp only [w0,w1,w2,w3]
 obtain ⟨p20,hp20,h⟩ := bindo h
 obtain ⟨p21,hp21,h⟩ := bindo h
 refine qN rfl (ok_store_s (v := (Sl.hv (p19.1))) · sz109 (.tmp rfl) hp20 (.tmp rfl) rfl hp21) (rE ?_)
 try dsimp only [w0,w1,w2,w3]
 refine hr_inBlock ?_
 exact q_round_end h ⟨rfl,rfl⟩
def J1 (D : Dp) (H : Hd) (k : Nat) (y5 : HP) (ds : List Nat) (S : HS) : Option ((HV) × HS) :=
 ((S.leave ds).bind fun p29 =>
 some ((HV.fn (.func 63) [] [(.ptr y5)]),p29))
theorem J1_snd (hD : DS base W0 D) (hH : HT base W0 β0 H)  {y5 : HP} {ds : List Nat} {S : HS} {p : (HV) × HS} (h : J1 D H k y5 ds S = some p) : HR base W0 β0 22 none [.code c18] ⟨[Ga,Gb,Gc,Gd,Ge,(.ptr y5),Gg,Gh,Gi,Gj,Gk,Gl,Gm,Gn,Go,Gp,Gq,Gr,Gs,Gt,Gu,Gv,Gw,Gx,Gy,Gz,Ka,Kb,Kc,Kd,Ke,Kf],ds⟩ S (fun v S1 => v = p.1 ∧ S1 = p.2) := by
 unfold J1 at h
 refine qQ rfl (qR rfl rfl (qS 31 rfl (ok_makeFunc · Evs.nil (.cons (.tmp rfl) Evs.nil)) (qS 4 rfl (oA · rfl) (rE ?_))))
 try dsimp only [w0,w1,w2,w3]
 obtain ⟨p29,hp29,h⟩ := bindo h
 cases h
 exact q_ret rfl at_.at_ hp29 (res1 rfl rfl) ⟨rfl,rfl⟩
def f (D : Dp) (H : Hd) (k : Nat) (x0 : HP) (x1 : Int) (S : HS) : Option ((HV) × HS) :=
 (letv (HS.new S (.cells 1 [[(.ptr x0)]] true)) fun p1 =>
 (letv (HS.new p1 (.cells 1 [[(Sl.hv Sl.nil)]] true)) fun p2 =>
 ((p2.ldP (HA.cell0 S.next)).bind fun p3 =>
 (if (!Option.isNone p3) = true then
 ((p2.ldP (HA.cell0 S.next)).bind fun p5 =>
 (p5.bind fun p6 =>
 ((p2.ldP (HA.fld p6 16)).bind fun p7 =>
 ((pair_Rel_int_string_Of.f p7 x1 p2).bind fun p8 =>
 ((D (Hd.set H (HS.next p8.2 + 1) fun vs T =>
 ((T.lp (HS.next p8.2 + 1)).bind fun u24 =>
 ((args1 vs).bind fun ar22 =>
 ((dS ar22).bind fun p23 =>
 (J0 D H k (HS.next p8.2 + 1) (some (HA.cell0 S.next)) (some (HA.cell0 p1.next)) p23 T))))) p8.1 [.fn (.yield (HS.next p8.2 + 1)) [] []] (HS.new (HS.new p8.2 .defer) (.loop .ready none))).bind fun p25 =>
 ((p25.2.finish (HS.next p8.2 + 1)).bind fun p26 =>
 ((pcode p26.1).bind fun n27 =>
 (if n27 = 0 then
 J1 D H k (some (HA.cell0 p1.next)) (HS.next p8.2 :: []) p26.2 else
 none)))))))) else
 J1 D H k (some (HA.cell0 p1.next)) [] p2))))
theorem snd {x0 : HP} {x1 : Int} {S : HS} (hD : DS base W0 D) (hH : HT base W0 β0 H)  {p : (HV) × HS} (h : f D H k x0 x1 S = some p) : HCall Tryz.prog base W0 β0 22 [(.ptr x0),(.int .i64 x1)] S (fun v S1 => v = p.1 ∧ S1 = p.2) := by
 unfold f at h
 refine HCall.of_run at_.at_ body ?_
 show HR base W0 β0 22 none [.code c0] ⟨[(.ptr x0),(.int .i64 x1),τ,τ,τ,τ,τ,τ,τ,τ,τ,τ,τ,τ,τ,τ,τ,τ,τ,τ,τ,τ,τ,τ,τ,τ,τ,τ,τ,τ,τ,τ],[]⟩ S _
 obtain ⟨p1,hp1,h⟩ := leto h
 refine qQ rfl (qR rfl rfl (qS 2 rfl (ok_box_e · (.tmp rfl) (Nat.zero_lt_succ _) rfl hp1) (qS 4 rfl (ok_assign · (.const fun _ => .nilFn)) (rE ?_))))
 try dsimp only [w0,w1,w2,w3]
 obtain ⟨p2,hp2,h⟩ := leto h
 refine qQ rfl (qR rfl rfl (qS 5 rfl (ok_alloc_e · zi109 zr109 (by decide) rfl hp2) (rE ?_)))
 try dsimp only [w0,w1,w2,w3]
 obtain ⟨p3,hp3,h⟩ := bindo h
 refine qQ rfl (qQ rfl (qR rfl rfl (qS 9 rfl (oL · sc25 rfl rfl (ldP_out hp3)) (qS 10 rfl (ok_nil_ptr · tu25 (.tmp rfl) (.inr ⟨rfl,rfl⟩)) (rE ?_)))))
 try dsimp only [w0,w1,w2,w3]
 rcases ifc h with ⟨hc4,h⟩ | ⟨hc4,h⟩
 ·obtain ⟨p5,hp5,h⟩ := bindo h
  obtain ⟨p6,hp6,h⟩ := bindo h
  obtain ⟨p7,hp7,h⟩ := bindo h
  refine q_cond_t rfl (.tmp rfl) hc4 (qQ rfl (qR rfl rfl (qS 11 rfl (oL · sc25 rfl rfl (ldP_out hp5)) (qS 12 rfl (oN · rfl hp6) (qS 13 rfl (oF · fi83_2 (by decide) rfl rfl) (qS 14 rfl (oL · sc79 rfl rfl (ldP_out hp7)) ?_))))))
  try dsimp only [w0,w1,w2,w3]
  obtain ⟨p8,hp8,h⟩ := bindo h
  refine qS 15 rfl (oM · rfl) (q_call (dst := some 16) rfl (.func _) (.cons (.tmp rfl) (.cons (.tmp rfl) Evs.nil)) (HInv.static pair_Rel_int_string_Of.at_ pair_Rel_int_string_Of.body (pair_Rel_int_string_Of.snd  hp8)) ?_)
  rintro _ _ ⟨rfl,rfl⟩
  refine rE ?_
  try dsimp only [w0,w1,w2,w3]
  obtain ⟨p25,hp25,h⟩ := bindo h
  obtain ⟨p26,hp26,h⟩ := bindo h
  obtain ⟨n27,hn27,h⟩ := bindo h
  refine q_block rfl ?_
  refine q_range (D := D) (H := H) rfl (.tmp rfl) hD hH hp25 hp26 ?_ ?_
  ·intro β1 hle hLA vs T u T' hr
   obtain ⟨u24,hu24,hr⟩ := bindo hr
   obtain ⟨ar22,har22,hr⟩ := bindo hr
   obtain ⟨p23,hp23,hr⟩ := bindo hr
   rw [args1_out har22]
   refine q_yield2 hLA hu24 rfl rfl ?_
   rw [dS_out hp23]
   simp only [HAct.params,List.set_cons_zero,List.set_cons_succ]
   exact J0_snd hD (hH.up hle) hr
  ·rcases ifc h with ⟨hc28,h⟩ | ⟨hc28,h⟩
   ·rw [pcode0 hn27 hc28]
    simp only [jumped_none,jumped_some]
    refine hr_inBlock ?_
    try dsimp only [w0,w1,w2,w3]
    exact J1_snd hD hH h
   ·cases h
 ·refine q_cond_f rfl (.tmp rfl) (bfalse hc4) (q_skipc rfl ?_)
  try dsimp only [w0,w1,w2,w3]
  exact J1_snd hD hH h
end rooms_Rooms_Of
namespace room_Room_Members_1
theorem at_ : FnAt Tryz.prog 81 Tryz.f81 := ⟨Tryz.func81,by kernel_rfl⟩
def c0 : Code := .skip
theorem body : Tryz.f81.body = some c0 := by kernel_rfl
def f (x0 : HV) : Option (Unit) :=
 some ()
theorem snd {x0 : HV} {S : HS}  {p : Unit} (h : f x0 = some p) : HCall Tryz.prog base W0 β0 81 [x0] S (fun v S1 => v = (.tup []) ∧ S1 = S) := by
 unfold f at h
 refine HCall.of_run at_.at_ body ?_
 show HR base W0 β0 81 none [.code c0] ⟨[x0,τ],[]⟩ S _
 cases h
 exact q_skipc rfl (q_end at_.at_ rfl (res0 rfl) ⟨rfl,rfl⟩)
end room_Room_Members_1
namespace slices_Clone_api_Member_api_Member
theorem at_ : FnAt Tryz.prog 83 Tryz.f83 := ⟨Tryz.func83,by kernel_rfl⟩
def d0 := (Tryz.f83.body).getD .skip
def r1 := kR (kA d0)
def r4 := kR (kA (kA (kB d0)))
def r7 := kR (kA (kA (kB (kA (kB d0)))))
def r11 := kR (kA (kB (kB d0)))
def c0 : Code := .seq (.region 0 r1 false) (.seq (.seq (.region 1 r4 false) (.cond (.tmp 4) (.seq (.region 2 r7 false) .ret) .skip)) (.seq (.region 3 r11 false) .ret))
theorem body : Tryz.f83.body = some c0 := by kernel_rfl
def f (x0 : Sl) (S : HS) : Option ((Sl) × HS) :=
 (if (Option.isNone (Sl.a x0)) = true then
 some (Sl.nil,S) else
 (letv (HS.lit S [] 3) fun p2 =>
 ((p2.2.rows x0 3).bind fun p3 =>
 ((p2.2.app (p2.1) p3 3).bind fun p4 =>
 some ((p4.1),(p4.2))))))
theorem snd {x0 : Sl} {S : HS}  {p : (Sl) × HS} (h : f x0 S = some p) : HCall Tryz.prog base W0 β0 83 [(Sl.hv x0)] S (fun v S1 => v = (Sl.hv p.1) ∧ S1 = p.2) := by
 unfold f at h
 refine HCall.of_run at_.at_ body ?_
 show HR base W0 β0 83 none [.code c0] ⟨[(Sl.hv x0),τ,τ,τ,τ,τ,τ,τ],[]⟩ S _
 refine qQ rfl (qR rfl rfl (qS 2 rfl (ok_assign · (.const fun _ => .slNil none)) (rE ?_)))
 try dsimp only [w0,w1,w2,w3]
 refine qQ rfl (qQ rfl (qR rfl rfl (qS 3 rfl (oM · rfl) (qS 4 rfl (ok_nil_sl · tu87 (.tmp rfl) (.inl ⟨rfl,rfl⟩)) (rE ?_)))))
 try dsimp only [w0,w1,w2,w3]
 rcases ifc h with ⟨hc1,h⟩ | ⟨hc1,h⟩
 ·refine q_cond_t rfl (.tmp rfl) hc1 (qQ rfl (qR rfl rfl (qS 2 rfl (ok_assign · (.const fun _ => .slNil none)) (rE ?_))))
  cases h
  exact q_ret rfl at_.at_ rfl (res1 rfl rfl) ⟨rfl,rfl⟩
 ·obtain ⟨p2,hp2,h⟩ := leto h
  obtain ⟨p3,hp3,h⟩ := bindo h
  obtain ⟨p4,hp4,h⟩ := bindo h
  refine q_cond_f rfl (.tmp rfl) (bfalse hc1) (q_skipc rfl (qQ rfl (qR rfl rfl (qS 5 rfl (ok_buildSlice_s (xs := []) el87 · rfl rfl (by decide) Evs.nil rfl rfl hp2) (qS 6 rfl (oM · rfl) (qS 7 rfl (ok_append (s := (p2.1)) (s1 := x0) el87 · rfl rfl ⟨_,tu87⟩ (.tmp rfl) (.tmp rfl) hp3 hp4) (qS 2 rfl (oA · rfl) (rE ?_))))))))
  cases h
  exact q_ret rfl at_.at_ rfl (res1 rfl rfl) ⟨rfl,rfl⟩
end slices_Clone_api_Member_api_Member
namespace slices_Values_api_Member_api_Member_1
theorem at_ : FnAt Tryz.prog 113 Tryz.f113 := ⟨Tryz.func113,by kernel_rfl⟩
def d0 := (Tryz.f113.body).getD .skip
def r1 := kR (kA d0)
def d4 := kA (kA (kB d0))
def r5 := kR (kA d4)
def r13 := kR (kA (kA (kA (kB (kB d4)))))
def r15 := kR (kA (kB (kA (kA (kB (kB d4))))))
def r19 := kR (kB (kB (kB d4)))
def c4 : Code := .seq (.region 1 r5 false) (.seq (.cond (.tmp 8) .skip (.exit 0)) (.seq (.block 1 (.seq (.region 2 r13 false) (.seq (.region 3 r15 false) (.cond (.tmp 14) .ret .skip)))) (.region 4 r19 false)))
def c0 : Code := .seq (.region 0 r1 false) (.block 0 (.loop c4))
theorem body : Tryz.f113.body = some c0 := by kernel_rfl
def L0 (D : Dp) (H : Hd) (k : Nat) : Nat → HV → Sl → Int → Int → HS → Option ((Unit) × HS)
 | 0,_,_,_,_,_ => none
 | n + 1,y0,y5,y6,y7,S =>
  (if y7 < y6 then
  ((S.idx y5 y7 3).bind fun p4 =>
  ((S.ldI .i64 (HA.fld p4 0)).bind fun p5 =>
  ((S.ldB (HA.fld p4 1)).bind fun p6 =>
  ((S.ldB (HA.fld p4 2)).bind fun p7 =>
  (letv (HS.new S (.cells 3 [[(.int .i64 0),(.bool false),(.bool false)]] true)) fun p8 =>
  ((p8.sets (HA.cell0 S.next) [(.int .i64 p5),(.bool p6),(.bool p7)]).bind fun p9 =>
  ((p9.ldI .i64 (HA.fld (HA.cell0 S.next) 0)).bind fun p10 =>
  ((p9.ldB (HA.fld (HA.cell0 S.next) 1)).bind fun p11 =>
  ((p9.ldB (HA.fld (HA.cell0 S.next) 2)).bind fun p12 =>
  ((D H y0 [(.agg [(.int .i64 p10),(.bool p11),(.bool p12)])] p9).bind fun p13 =>
  ((dB p13.1).bind fun p14 =>
  (if (!p14) = true then
  some ((),p13.2) else
  (L0 D H k n) y0 y5 y6 (w64 (y7 + 1)) p13.2)))))))))))) else
  some ((),S))
theorem L0_snd (hD : DS base W0 D) (hH : HT base W0 β0 H)  : ∀ {n : Nat} ⦃y0 : HV⦄ ⦃y5 : Sl⦄ ⦃y6 : Int⦄ ⦃y7 : Int⦄ ⦃S : HS⦄ ⦃p : (Unit) × HS⦄ ⦃Gb Gc Gd Ge Gi Gj Gk Gl Gm Gn Go Gp : HV⦄,L0 D H k n y0 y5 y6 y7 S = some p → HR base W0 β0 113 none [.inLoop c4,.inBlock 0] ⟨[y0,Gb,Gc,Gd,Ge,(Sl.hv y5),(.int .i64 y6),(.int .i64 y7),Gi,Gj,Gk,Gl,Gm,Gn,Go,Gp],[]⟩ S (fun v S1 => v = (.tup []) ∧ S1 = p.2) := by
 intro n
 induction n with
 | zero => intro _ _ _ _ _ _ _ _ _ _ _ _ _ _ _ _ _ _ h; cases h
 | succ n ih =>
  intro y0 y5 y6 y7 S p Gb Gc Gd Ge Gi Gj Gk Gl Gm Gn Go Gp h
  simp only [L0] at h
  refine hr_inLoop (qQ rfl (qR rfl rfl (qS 8 rfl (oB · rfl rfl rfl) (rE ?_))))
  try dsimp only [w0,w1,w2,w3]
  refine qQ rfl ?_
  rcases ifc h with ⟨hc3,h⟩ | ⟨hc3,h⟩
  ·obtain ⟨p4,hp4,h⟩ := bindo h
   obtain ⟨p5,hp5,h⟩ := bindo h
   obtain ⟨p6,hp6,h⟩ := bindo h
   obtain ⟨p7,hp7,h⟩ := bindo h
   obtain ⟨p8,hp8,h⟩ := leto h
   obtain ⟨p9,hp9,h⟩ := bindo h
   refine q_cond_t rfl (.tmp rfl) (decide_eq_true hc3) (q_skipc rfl (qQ rfl (q_block rfl (qQ rfl (qR rfl rfl (qS 9 rfl (oX (s := y5) · tu87 sz62 rfl rfl hp4) (qS 10 rfl (ok_load_a (vs := [(.int .i64 p5),(.bool p6),(.bool p7)]) · ia62 (.tmp rfl) rfl ⟨ldI_out hp5,ldB_out hp6,ldB_out hp7,trivial⟩ (by simp)) (qS 4 rfl (ok_alloc_e · zi62 zr62 (by decide) rfl hp8) (qN rfl (ok_store_s (v := (.agg [(.int .i64 p5),(.bool p6),(.bool p7)])) · sz62 (.tmp rfl) rfl (.tmp rfl) rfl hp9) (rE ?_))))))))))
   try dsimp only [w0,w1,w2,w3]
   obtain ⟨p10,hp10,h⟩ := bindo h
   obtain ⟨p11,hp11,h⟩ := bindo h
   obtain ⟨p12,hp12,h⟩ := bindo h
   obtain ⟨p13,hp13,h⟩ := bindo h
   obtain ⟨p14,hp14,h⟩ := bindo h
   refine qQ rfl (qR rfl rfl (qS 11 rfl (oM · rfl) (qS 12 rfl (ok_load_a (vs := [(.int .i64 p10),(.bool p11),(.bool p12)]) · ia62 (.tmp rfl) rfl ⟨ldI_out hp10,ldB_out hp11,ldB_out hp12,trivial⟩ (by simp)) (q_call (dst := some 13) rfl (.tmp rfl) (.cons (.tmp rfl) Evs.nil) (hD _ _ hH _ _ _ _ _ hp13) ?_))))
   rintro _ _ ⟨rfl,rfl⟩
   rw [dB_out hp14]
   refine qS 14 rfl (ok_not · (.tmp rfl)) (rE ?_)
   try dsimp only [w0,w1,w2,w3]
   rcases ifc h with ⟨hc15,h⟩ | ⟨hc15,h⟩
   ·cases h
    exact q_cond_t rfl (.tmp rfl) hc15 (q_ret rfl at_.at_ rfl (res0 rfl) ⟨rfl,rfl⟩)
   ·refine q_cond_f rfl (.tmp rfl) (bfalse hc15) (q_skipc rfl (hr_inBlock (qR rfl rfl (qS 15 rfl (oC · rfl rfl) (qS 7 rfl (oM · rfl) (rE ?_))))))
    try dsimp only [w0,w1,w2,w3]
    exact ih h
  ·cases h
   exact q_cond_f rfl (.tmp rfl) (decide_eq_false hc3) (q_exit rfl rfl (q_end at_.at_ rfl (res0 rfl) ⟨rfl,rfl⟩))
def f (D : Dp) (H : Hd) (k : Nat) (x0 : HV) (x1 : HP) (S : HS) : Option ((Unit) × HS) :=
 (x1.bind fun p1 =>
 ((S.ldSl p1).bind fun p2 =>
 L0 D H k k x0 p2 (Sl.len p2 : Int) 0 S))
theorem snd {x0 : HV} {x1 : HP} {S : HS} (hD : DS base W0 D) (hH : HT base W0 β0 H)  {p : (Unit) × HS} (h : f D H k x0 x1 S = some p) : HCall Tryz.prog base W0 β0 113 [x0,(.ptr x1)] S (fun v S1 => v = (.tup []) ∧ S1 = p.2) := by
 unfold f at h
 refine HCall.of_run at_.at_ body ?_
 show HR base W0 β0 113 none [.code c0] ⟨[x0,(.ptr x1),τ,τ,τ,τ,τ,τ,τ,τ,τ,τ,τ,τ,τ,τ],[]⟩ S _
 obtain ⟨p1,hp1,h⟩ := bindo h
 obtain ⟨p2,hp2,h⟩ := bindo h
 refine qQ rfl (qR rfl rfl (qS 5 rfl (oL · sc87 rfl hp1 (ldSl_out hp2)) (qS 6 rfl (ok_len_sl (q := Sl.a p2) (n := Sl.len p2) (z := Sl.cap p2) · rfl tu87 (.tmp rfl)) (qS 7 rfl (ok_move · (.int _ _)) (rE ?_)))))
 try dsimp only [w0,w1,w2,w3]
 refine q_block rfl (q_loop rfl ?_)
 try dsimp only [w0,w1,w2,w3]
 exact L0_snd hD hH h
end slices_Values_api_Member_api_Member_1
namespace slices_Values_api_Member_api_Member
theorem at_ : FnAt Tryz.prog 82 Tryz.f82 := ⟨Tryz.func82,by kernel_rfl⟩
def d0 := (Tryz.f82.body).getD .skip
def r1 := kR (kA d0)
def r3 := kR (kA (kB d0))
def c0 : Code := .seq (.region 0 r1 false) (.seq (.region 1 r3 false) .ret)
theorem body : Tryz.f82.body = some c0 := by kernel_rfl
def f (x0 : Sl) (S : HS) : Option ((HV) × HS) :=
 (letv (HS.new S (.cells 1 [[(Sl.hv x0)]] true)) fun p1 =>
 some ((HV.fn (.func 113) [] [(.ptr (some (HA.cell0 S.next)))]),p1))
theorem snd {x0 : Sl} {S : HS}  {p : (HV) × HS} (h : f x0 S = some p) : HCall Tryz.prog base W0 β0 82 [(Sl.hv x0)] S (fun v S1 => v = p.1 ∧ S1 = p.2) := by
 unfold f at h
 refine HCall.of_run at_.at_ body ?_
 show HR base W0 β0 82 none [.code c0] ⟨[(Sl.hv x0),τ,τ,τ],[]⟩ S _
 obtain ⟨p1,hp1,h⟩ := leto h
 refine qQ rfl (qR rfl rfl (qS 1 rfl (ok_box_e · (.tmp rfl) (Nat.zero_lt_succ _) rfl hp1) (qS 2 rfl (ok_assign · (.const fun _ => .nilFn)) (rE ?_))))
 try dsimp only [w0,w1,w2,w3]
 refine qQ rfl (qR rfl rfl (qS 3 rfl (ok_makeFunc · Evs.nil (.cons (.tmp rfl) Evs.nil)) (qS 2 rfl (oA · rfl) (rE ?_))))
 cases h
 exact q_ret rfl at_.at_ rfl (res1 rfl rfl) ⟨rfl,rfl⟩
end slices_Values_api_Member_api_Member
namespace room_Room_Members
theorem at_ : FnAt Tryz.prog 54 Tryz.f54 := ⟨Tryz.func54,by kernel_rfl⟩
def d0 := (Tryz.f54.body).getD .skip
def r1 := kR (kA d0)
def r4 := kR (kA (kA (kB d0)))
def r7 := kR (kA (kA (kB (kA (kB d0)))))
def r11 := kR (kA (kB (kB d0)))
def c0 : Code := .seq (.region 0 r1 false) (.seq (.seq (.region 1 r4 false) (.cond (.tmp 4) (.seq (.region 2 r7 false) .ret) .skip)) (.seq (.region 3 r11 false) .ret))
theorem body : Tryz.f54.body = some c0 := by kernel_rfl
def f (x0 : HP) (S : HS) : Option ((HV) × HS) :=
 (if (Option.isNone x0) = true then
 some ((HV.fn (.func 81) [] []),S) else
 (x0.bind fun p2 =>
 ((S.ldSl (HA.fld p2 2)).bind fun p3 =>
 ((slices_Clone_api_Member_api_Member.f p3 S).bind fun p4 =>
 ((slices_Values_api_Member_api_Member.f p4.1 p4.2).bind fun p5 =>
 some (p5.1,p5.2))))))
theorem snd {x0 : HP} {S : HS}  {p : (HV) × HS} (h : f x0 S = some p) : HCall Tryz.prog base W0 β0 54 [(.ptr x0)] S (fun v S1 => v = p.1 ∧ S1 = p.2) := by
 unfold f at h
 refine HCall.of_run at_.at_ body ?_
 show HR base W0 β0 54 none [.code c0] ⟨[(.ptr x0),τ,τ,τ,τ,τ,τ,τ,τ,τ,τ],[]⟩ S _
 refine qQ rfl (qR rfl rfl (qS 2 rfl (ok_assign · (.const fun _ => .nilFn)) (rE ?_)))
 try dsimp only [w0,w1,w2,w3]
 refine qQ rfl (qQ rfl (qR rfl rfl (qS 3 rfl (oM · rfl) (qS 4 rfl (ok_nil_ptr · tu36 (.tmp rfl) (.inl ⟨rfl,rfl⟩)) (rE ?_)))))
 try dsimp only [w0,w1,w2,w3]
 rcases ifc h with ⟨hc1,h⟩ | ⟨hc1,h⟩
 ·refine q_cond_t rfl (.tmp rfl) hc1 (qQ rfl (qR rfl rfl (qS 2 rfl (ok_assign · (.func _)) (rE ?_))))
  cases h
  exact q_ret rfl at_.at_ rfl (res1 rfl rfl) ⟨rfl,rfl⟩
 ·obtain ⟨p2,hp2,h⟩ := bindo h
  obtain ⟨p3,hp3,h⟩ := bindo h
  refine q_cond_f rfl (.tmp rfl) (bfalse hc1) (q_skipc rfl (qQ rfl (qR rfl rfl (qS 5 rfl (oM · rfl) (qS 6 rfl (oN · rfl hp2) (qS 7 rfl (oF · fi114_2 (by decide) rfl rfl) (qS 8 rfl (oL · sc87 rfl rfl (ldSl_out hp3)) ?_)))))))
  try dsimp only [w0,w1,w2,w3]
  obtain ⟨p4,hp4,h⟩ := bindo h
  refine q_call (dst := some 9) rfl (.func _) (.cons (.tmp rfl) Evs.nil) (HInv.static slices_Clone_api_Member_api_Member.at_ slices_Clone_api_Member_api_Member.body (slices_Clone_api_Member_api_Member.snd  hp4)) ?_
  rintro _ _ ⟨rfl,rfl⟩
  obtain ⟨p5,hp5,h⟩ := bindo h
  refine q_call (dst := some 10) rfl (.func _) (.cons (.tmp rfl) Evs.nil) (HInv.static slices_Values_api_Member_api_Member.at_ slices_Values_api_Member_api_Member.body (slices_Values_api_Member_api_Member.snd  hp5)) ?_
  rintro _ _ ⟨rfl,rfl⟩
  refine qS 2 rfl (oA · rfl) (rE ?_)
  cases h
  exact q_ret rfl at_.at_ rfl (res1 rfl rfl) ⟨rfl,rfl⟩
end room_Room_Members
namespace slices_Clone_int_int
theorem at_ : FnAt Tryz.prog 118 Tryz.f118 := ⟨Tryz.func118,by kernel_rfl⟩
def d0 := (Tryz.f118.body).getD .skip
def r1 := kR (kA d0)
def r4 := kR (kA (kA (kB d0)))
def r7 := kR (kA (kA (kB (kA (kB d0)))))
def r11 := kR (kA (kB (kB d0)))
def c0 : Code := .seq (.region 0 r1 false) (.seq (.seq (.region 1 r4 false) (.cond (.tmp 4) (.seq (.region 2 r7 false) .ret) .skip)) (.seq (.region 3 r11 false) .ret))
theorem body : Tryz.f118.body = some c0 := by kernel_rfl
def f (x0 : Sl) (S : HS) : Option ((Sl) × HS) :=
 (if (Option.isNone (Sl.a x0)) = true then
 some (Sl.nil,S) else
 (letv (HS.lit S [] 1) fun p2 =>
 ((p2.2.rows x0 1).bind fun p3 =>
 ((p2.2.app (p2.1) p3 1).bind fun p4 =>
 some ((p4.1),(p4.2))))))
theorem snd {x0 : Sl} {S : HS}  {p : (Sl) × HS} (h : f x0 S = some p) : HCall Tryz.prog base W0 β0 118 [(Sl.hv x0)] S (fun v S1 => v = (Sl.hv p.1) ∧ S1 = p.2) := by
 unfold f at h
 refine HCall.of_run at_.at_ body ?_
 show HR base W0 β0 118 none [.code c0] ⟨[(Sl.hv x0),τ,τ,τ,τ,τ,τ,τ],[]⟩ S _
 refine qQ rfl (qR rfl rfl (qS 2 rfl (ok_assign · (.const fun _ => .slNil none)) (rE ?_)))
 try dsimp only [w0,w1,w2,w3]
 refine qQ rfl (qQ rfl (qR rfl rfl (qS 3 rfl (oM · rfl) (qS 4 rfl (ok_nil_sl · tu42 (.tmp rfl) (.inl ⟨rfl,rfl⟩)) (rE ?_)))))
 try dsimp only [w0,w1,w2,w3]
 rcases ifc h with ⟨hc1,h⟩ | ⟨hc1,h⟩
 ·refine q_cond_t rfl (.tmp rfl) hc1 (qQ rfl (qR rfl rfl (qS 2 rfl (ok_assign · (.const fun _ => .slNil none)) (rE ?_))))
  cases h
  exact q_ret rfl at_.at_ rfl (res1 rfl rfl) ⟨rfl,rfl⟩
 ·obtain ⟨p2,hp2,h⟩ := leto h
  obtain ⟨p3,hp3,h⟩ := bindo h
  obtain ⟨p4,hp4,h⟩ := bindo h
  refine q_cond_f rfl (.tmp rfl) (bfalse hc1) (q_skipc rfl (qQ rfl (qR rfl rfl (qS 5 rfl (ok_buildSlice_s (xs := []) el42 · rfl rfl (by decide) Evs.nil rfl rfl hp2) (qS 6 rfl (oM · rfl) (qS 7 rfl (ok_append (s := (p2.1)) (s1 := x0) el42 · rfl rfl ⟨_,tu42⟩ (.tmp rfl) (.tmp rfl) hp3 hp4) (qS 2 rfl (oA · rfl) (rE ?_))))))))
  cases h
  exact q_ret rfl at_.at_ rfl (res1 rfl rfl) ⟨rfl,rfl⟩
end slices_Clone_int_int
namespace set_Set_int_List
theorem at_ : FnAt Tryz.prog 87 Tryz.f87 := ⟨Tryz.func87,by kernel_rfl⟩
def d0 := (Tryz.f87.body).getD .skip
def r1 := kR (kA d0)
def r4 := kR (kA (kA (kB d0)))
def r7 := kR (kA (kA (kB (kA (kB d0)))))
def r11 := kR (kA (kB (kB d0)))
def c0 : Code := .seq (.region 0 r1 false) (.seq (.seq (.region 1 r4 false) (.cond (.tmp 4) (.seq (.region 2 r7 false) .ret) .skip)) (.seq (.region 3 r11 false) .ret))
theorem body : Tryz.f87.body = some c0 := by kernel_rfl
def f (x0 : HP) (S : HS) : Option ((Sl) × HS) :=
 (if (Option.isNone x0) = true then
 some (Sl.nil,S) else
 (x0.bind fun p2 =>
 ((S.ldSl (HA.fld p2 0)).bind fun p3 =>
 ((slices_Clone_int_int.f p3 S).bind fun p4 =>
 some (p4.1,p4.2)))))
theorem snd {x0 : HP} {S : HS}  {p : (Sl) × HS} (h : f x0 S = some p) : HCall Tryz.prog base W0 β0 87 [(.ptr x0)] S (fun v S1 => v = (Sl.hv p.1) ∧ S1 = p.2) := by
 unfold f at h
 refine HCall.of_run at_.at_ body ?_
 show HR base W0 β0 87 none [.code c0] ⟨[(.ptr x0),τ,τ,τ,τ,τ,τ,τ,τ,τ],[]⟩ S _
 refine qQ rfl (qR rfl rfl (qS 2 rfl (ok_assign · (.const fun _ => .slNil none)) (rE ?_)))
 try dsimp only [w0,w1,w2,w3]
 refine qQ rfl (qQ rfl (qR rfl rfl (qS 3 rfl (oM · rfl) (qS 4 rfl (ok_nil_ptr · tu96 (.tmp rfl) (.inl ⟨rfl,rfl⟩)) (rE ?_)))))
 try dsimp only [w0,w1,w2,w3]
 rcases ifc h with ⟨hc1,h⟩ | ⟨hc1,h⟩
 ·refine q_cond_t rfl (.tmp rfl) hc1 (qQ rfl (qR rfl rfl (qS 2 rfl (ok_assign · (.const fun _ => .slNil none)) (rE ?_))))
  cases h
  exact q_ret rfl at_.at_ rfl (res1 rfl rfl) ⟨rfl,rfl⟩
 ·obtain ⟨p2,hp2,h⟩ := bindo h
  obtain ⟨p3,hp3,h⟩ := bindo h
  refine q_cond_f rfl (.tmp rfl) (bfalse hc1) (q_skipc rfl (qQ rfl (qR rfl rfl (qS 5 rfl (oM · rfl) (qS 6 rfl (oN · rfl hp2) (qS 7 rfl (oF · fi138_0 (by decide) rfl rfl) (qS 8 rfl (oL · sc42 rfl rfl (ldSl_out hp3)) ?_)))))))
  try dsimp only [w0,w1,w2,w3]
  obtain ⟨p4,hp4,h⟩ := bindo h
  refine q_call (dst := some 9) rfl (.func _) (.cons (.tmp rfl) Evs.nil) (HInv.static slices_Clone_int_int.at_ slices_Clone_int_int.body (slices_Clone_int_int.snd  hp4)) ?_
  rintro _ _ ⟨rfl,rfl⟩
  refine qS 2 rfl (oA · rfl) (rE ?_)
  cases h
  exact q_ret rfl at_.at_ rfl (res1 rfl rfl) ⟨rfl,rfl⟩
end set_Set_int_List
namespace slices_Clone_int_int_89
theorem at_ : FnAt Tryz.prog 89 Tryz.f89 := ⟨Tryz.func89,by kernel_rfl⟩
def d0 := (Tryz.f89.body).getD .skip
def r1 := kR (kA d0)
def r4 := kR (kA (kA (kB d0)))
def r7 := kR (kA (kA (kB (kA (kB d0)))))
def r11 := kR (kA (kB (kB d0)))
def c0 : Code := .seq (.region 0 r1 false) (.seq (.seq (.region 1 r4 false) (.cond (.tmp 4) (.seq (.region 2 r7 false) .ret) .skip)) (.seq (.region 3 r11 false) .ret))
theorem body : Tryz.f89.body = some c0 := by kernel_rfl
def f (x0 : Sl) (S : HS) : Option ((Sl) × HS) :=
 (if (Option.isNone (Sl.a x0)) = true then
 some (Sl.nil,S) else
 (letv (HS.lit S [] 1) fun p2 =>
 ((p2.2.rows x0 1).bind fun p3 =>
 ((p2.2.app (p2.1) p3 1).bind fun p4 =>
 some ((p4.1),(p4.2))))))
theorem snd {x0 : Sl} {S : HS}  {p : (Sl) × HS} (h : f x0 S = some p) : HCall Tryz.prog base W0 β0 89 [(Sl.hv x0)] S (fun v S1 => v = (Sl.hv p.1) ∧ S1 = p.2) := by
 unfold f at h
 refine HCall.of_run at_.at_ body ?_
 show HR base W0 β0 89 none [.code c0] ⟨[(Sl.hv x0),τ,τ,τ,τ,τ,τ,τ],[]⟩ S _
 refine qQ rfl (qR rfl rfl (qS 2 rfl (ok_assign · (.const fun _ => .slNil none)) (rE ?_)))
 try dsimp only [w0,w1,w2,w3]
 refine qQ rfl (qQ rfl (qR rfl rfl (qS 3 rfl (oM · rfl) (qS 4 rfl (ok_nil_sl · tu144 (.tmp rfl) (.inl ⟨rfl,rfl⟩)) (rE ?_)))))
 try dsimp only [w0,w1,w2,w3]
 rcases ifc h with ⟨hc1,h⟩ | ⟨hc1,h⟩
 ·refine q_cond_t rfl (.tmp rfl) hc1 (qQ rfl (qR rfl rfl (qS 2 rfl (ok_assign · (.const fun _ => .slNil none)) (rE ?_))))
  cases h
  exact q_ret rfl at_.at_ rfl (res1 rfl rfl) ⟨rfl,rfl⟩
 ·obtain ⟨p2,hp2,h⟩ := leto h
  obtain ⟨p3,hp3,h⟩ := bindo h
  obtain ⟨p4,hp4,h⟩ := bindo h
  refine q_cond_f rfl (.tmp rfl) (bfalse hc1) (q_skipc rfl (qQ rfl (qR rfl rfl (qS 5 rfl (ok_buildSlice_s (xs := []) el144 · rfl rfl (by decide) Evs.nil rfl rfl hp2) (qS 6 rfl (oM · rfl) (qS 7 rfl (ok_append (s := (p2.1)) (s1 := x0) el144 · rfl rfl ⟨_,tu144⟩ (.tmp rfl) (.tmp rfl) hp3 hp4) (qS 2 rfl (oA · rfl) (rE ?_))))))))
  cases h
  exact q_ret rfl at_.at_ rfl (res1 rfl rfl) ⟨rfl,rfl⟩
end slices_Clone_int_int_89
namespace set_Union_int_1
theorem at_ : FnAt Tryz.prog 88 Tryz.f88 := ⟨Tryz.func88,by kernel_rfl⟩
def d0 := (Tryz.f88.body).getD .skip
def r1 := kR (kA d0)
def d4 := kA (kA (kB d0))
def r6 := kR (kA (kA d4))
def d8 := kA (kB (kA d4))
def r9 := kR (kA d8)
def d12 := kA (kA (kB d8))
def r13 := kR (kA d12)
def r21 := kR (kA (kA (kA (kB (kB d12)))))
def d22 := kB (kA (kA (kB (kB d12))))
def r23 := kR (kA d22)
def r25 := kR (kA (kB d22))
def r27 := kR (kB (kB (kB d12)))
def d28 := kB (kB (kA d4))
def r30 := kR (kA (kA d28))
def r35 := kR (kA (kB d28))
def d37 := kA (kB (kB d28))
def r38 := kR (kA d37)
def d41 := kA (kA (kB d37))
def r42 := kR (kA d41)
def r50 := kR (kA (kA (kA (kB (kB d41)))))
def d51 := kB (kA (kA (kB (kB d41))))
def r52 := kR (kA d51)
def r54 := kR (kA (kB d51))
def r56 := kR (kB (kB (kB d41)))
def r58 := kR (kA (kB (kB (kB d28))))
def c57 : Code := .seq (.region 16 r58 false) (.cond (.tmp 74) .ret .skip)
def c56 : Code := .region 15 r56 false
def c53 : Code := .cond (.tmp 64) (.region 14 r54 false) .skip
def c41 : Code := .seq (.region 11 r42 false) (.seq (.cond (.tmp 51) .skip (.exit 4)) (.seq (.block 5 (.seq (.region 12 r50 false) (.seq (.region 13 r52 false) c53))) c56))
def c28 : Code := .seq (.seq (.region 8 r30 false) (.cond (.tmp 41) .ret .skip)) (.seq (.region 9 r35 false) (.seq (.seq (.region 10 r38 false) (.block 4 (.loop c41))) c57))
def c27 : Code := .region 7 r27 false
def c24 : Code := .cond (.tmp 37) (.region 6 r25 false) .skip
def c12 : Code := .seq (.region 3 r13 false) (.seq (.cond (.tmp 15) .skip (.exit 2)) (.seq (.block 3 (.seq (.region 4 r21 false) (.seq (.region 5 r23 true) c24))) c27))
def c4 : Code := .block 1 (.seq (.region 1 r6 false) (.seq (.seq (.region 2 r9 false) (.block 2 (.loop c12))) c28))
def c0 : Code := .seq (.region 0 r1 false) (.block 0 (.loop c4))
theorem body : Tryz.f88.body = some c0 := by kernel_rfl
def J3 (D : Dp) (H : Hd) (k : Nat) (rec0 : HV → Sl → Int → Sl → Int → Int → HS → Option ((Unit) × HS)) (rec1 : HV → Sl → HS → Option ((Unit) × HS)) (y0 : HV) (y3 : Sl) (y4 : Int) (y12 : Sl) (y13 : Int) (y14 : Int) (S : HS) : Option ((Unit) × HS) :=
 rec0 y0 y3 y4 y12 y13 (w64 (y14 + 1)) S
theorem J3_snd {rec0 : HV → Sl → Int → Sl → Int → Int → HS → Option ((Unit) × HS)} {rec1 : HV → Sl → HS → Option ((Unit) × HS)} (hD : DS base W0 D) (hH : HT base W0 β0 H) (hrec0 : ∀ ⦃y0 : HV⦄ ⦃y3 : Sl⦄ ⦃y4 : Int⦄ ⦃y12 : Sl⦄ ⦃y13 : Int⦄ ⦃y14 : Int⦄ ⦃S : HS⦄ ⦃p : (Unit) × HS⦄ ⦃Gb Gc Gf Gg Gh Gi Gj Gk Gl Gp Gq Gr Gs Gt Gu Gv Gw Gx Gy Gz Ka Kb Kc Kd Ke Kf Kg Kh Ki Kj Kk Kl Km Kn Ko Kp Kq Kr Ks Kt Ku Kv Kw Kx Ky Kz Ma Mb Mc Md Me Mf Mg Mh Mi Mj Mk Ml Mm Mn Mo Mp Mq Mr Ms Mt Mu Mv Mw : HV⦄,rec0 y0 y3 y4 y12 y13 y14 S = some p → HR base W0 β0 88 none [.inLoop c12,.inBlock 2,.code c28,.inBlock 1,.inLoop c4,.inBlock 0] ⟨[y0,Gb,Gc,(Sl.hv y3),(.int .i64 y4),Gf,Gg,Gh,Gi,Gj,Gk,Gl,(Sl.hv y12),(.int .i64 y13),(.int .i64 y14),Gp,Gq,Gr,Gs,Gt,Gu,Gv,Gw,Gx,Gy,Gz,Ka,Kb,Kc,Kd,Ke,Kf,Kg,Kh,Ki,Kj,Kk,Kl,Km,Kn,Ko,Kp,Kq,Kr,Ks,Kt,Ku,Kv,Kw,Kx,Ky,Kz,Ma,Mb,Mc,Md,Me,Mf,Mg,Mh,Mi,Mj,Mk,Ml,Mm,Mn,Mo,Mp,Mq,Mr,Ms,Mt,Mu,Mv,Mw],[]⟩ S (fun v S1 => v = (.tup []) ∧ S1 = p.2)) (hrec1 : ∀ ⦃y0 : HV⦄ ⦃y3 : Sl⦄ ⦃S : HS⦄ ⦃p : (Unit) × HS⦄ ⦃Gb Gc Ge Gf Gg Gh Gi Gj Gk Gl Gm Gn Go Gp Gq Gr Gs Gt Gu Gv Gw Gx Gy Gz Ka Kb Kc Kd Ke Kf Kg Kh Ki Kj Kk Kl Km Kn Ko Kp Kq Kr Ks Kt Ku Kv Kw Kx Ky Kz Ma Mb Mc Md Me Mf Mg Mh Mi Mj Mk Ml Mm Mn Mo Mp Mq Mr Ms Mt Mu Mv Mw : HV⦄,rec1 y0 y3 S = some p → HR base W0 β0 88 none [.inLoop c4,.inBlock 0] ⟨[y0,Gb,Gc,(Sl.hv y3),Ge,Gf,Gg,Gh,Gi,Gj,Gk,Gl,Gm,Gn,Go,Gp,Gq,Gr,Gs,Gt,Gu,Gv,Gw,Gx,Gy,Gz,Ka,Kb,Kc,Kd,Ke,Kf,Kg,Kh,Ki,Kj,Kk,Kl,Km,Kn,Ko,Kp,Kq,Kr,Ks,Kt,Ku,Kv,Kw,Kx,Ky,Kz,Ma,Mb,Mc,Md,Me,Mf,Mg,Mh,Mi,Mj,Mk,Ml,Mm,Mn,Mo,Mp,Mq,Mr,Ms,Mt,Mu,Mv,Mw],[]⟩ S (fun v S1 => v = (.tup []) ∧ S1 = p.2)) {y0 : HV} {y3 : Sl} {y4 : Int} {y12 : Sl} {y13 : Int} {y14 : Int} {S : HS} {p : (Unit) × HS} (h : J3 D H k rec0 rec1 y0 y3 y4 y12 y13 y14 S = some p) : HR base W0 β0 88 none [.code c27,.inLoop c12,.inBlock 2,.code c28,.inBlock 1,.inLoop c4,.inBlock 0] ⟨[y0,Gb,Gc,(Sl.hv y3),(.int .i64 y4),Gf,Gg,Gh,Gi,Gj,Gk,Gl,(Sl.hv y12),(.int .i64 y13),(.int .i64 y14),Gp,Gq,Gr,Gs,Gt,Gu,Gv,Gw,Gx,Gy,Gz,Ka,Kb,Kc,Kd,Ke,Kf,Kg,Kh,Ki,Kj,Kk,Kl,Km,Kn,Ko,Kp,Kq,Kr,Ks,Kt,Ku,Kv,Kw,Kx,Ky,Kz,Ma,Mb,Mc,Md,Me,Mf,Mg,Mh,Mi,Mj,Mk,Ml,Mm,Mn,Mo,Mp,Mq,Mr,Ms,Mt,Mu,Mv,Mw],[]⟩ S (fun v S1 => v = (.tup []) ∧ S1 = p.2) := by
 unfold J3 at h
 refine qR rfl rfl (qS 39 rfl (oC · rfl rfl) (qS 14 rfl (oM · rfl) (rE ?_)))
 try dsimp only [w0,w1,w2,w3]
 exact hrec0 h
def J2 (D : Dp) (H : Hd) (k : Nat) (rec0 : HV → Sl → Int → Sl → Int → Int → HS → Option ((Unit) × HS)) (rec1 : HV → Sl → HS → Option ((Unit) × HS)) (y0 : HV) (y3 : Sl) (y4 : Int) (y5 : Int) (y12 : Sl) (y13 : Int) (y14 : Int) (y37 : Bool) (S : HS) : Option ((Unit) × HS) :=
 (if y37 = true then
 J3 D H k rec0 rec1 y0 y3 y5 y12 y13 y14 S else
 J3 D H k rec0 rec1 y0 y3 y4 y12 y13 y14 S)
theorem J2_snd {rec0 : HV → Sl → Int → Sl → Int → Int → HS → Option ((Unit) × HS)} {rec1 : HV → Sl → HS → Option ((Unit) × HS)} (hD : DS base W0 D) (hH : HT base W0 β0 H) (hrec0 : ∀ ⦃y0 : HV⦄ ⦃y3 : Sl⦄ ⦃y4 : Int⦄ ⦃y12 : Sl⦄ ⦃y13 : Int⦄ ⦃y14 : Int⦄ ⦃S : HS⦄ ⦃p : (Unit) × HS⦄ ⦃Gb Gc Gf Gg Gh Gi Gj Gk Gl Gp Gq Gr Gs Gt Gu Gv Gw Gx Gy Gz Ka Kb Kc Kd Ke Kf Kg Kh Ki Kj Kk Kl Km Kn Ko Kp Kq Kr Ks Kt Ku Kv Kw Kx Ky Kz Ma Mb Mc Md Me Mf Mg Mh Mi Mj Mk Ml Mm Mn Mo Mp Mq Mr Ms Mt Mu Mv Mw : HV⦄,rec0 y0 y3 y4 y12 y13 y14 S = some p → HR base W0 β0 88 none [.inLoop c12,.inBlock 2,.code c28,.inBlock 1,.inLoop c4,.inBlock 0] ⟨[y0,Gb,Gc,(Sl.hv y3),(.int .i64 y4),Gf,Gg,Gh,Gi,Gj,Gk,Gl,(Sl.hv y12),(.int .i64 y13),(.int .i64 y14),Gp,Gq,Gr,Gs,Gt,Gu,Gv,Gw,Gx,Gy,Gz,Ka,Kb,Kc,Kd,Ke,Kf,Kg,Kh,Ki,Kj,Kk,Kl,Km,Kn,Ko,Kp,Kq,Kr,Ks,Kt,Ku,Kv,Kw,Kx,Ky,Kz,Ma,Mb,Mc,Md,Me,Mf,Mg,Mh,Mi,Mj,Mk,Ml,Mm,Mn,Mo,Mp,Mq,Mr,Ms,Mt,Mu,Mv,Mw],[]⟩ S (fun v S1 => v = (.tup []) ∧ S1 = p.2)) (hrec1 : ∀ ⦃y0 : HV⦄ ⦃y3 : Sl⦄ ⦃S : HS⦄ ⦃p : (Unit) × HS⦄ ⦃Gb Gc Ge Gf Gg Gh Gi Gj Gk Gl Gm Gn Go Gp Gq Gr Gs Gt Gu Gv Gw Gx Gy Gz Ka Kb Kc Kd Ke Kf Kg Kh Ki Kj Kk Kl Km Kn Ko Kp Kq Kr Ks Kt Ku Kv Kw Kx Ky Kz Ma Mb Mc Md Me Mf Mg Mh Mi Mj Mk Ml Mm Mn Mo Mp Mq Mr Ms Mt Mu Mv Mw : HV⦄,rec1 y0 y3 S = some p → HR base W0 β0 88 none [.inLoop c4,.inBlock 0] ⟨[y0,Gb,Gc,(Sl.hv y3),Ge,Gf,Gg,Gh,Gi,Gj,Gk,Gl,Gm,Gn,Go,Gp,Gq,Gr,Gs,Gt,Gu,Gv,Gw,Gx,Gy,Gz,Ka,Kb,Kc,Kd,Ke,Kf,Kg,Kh,Ki,Kj,Kk,Kl,Km,Kn,Ko,Kp,Kq,Kr,Ks,Kt,Ku,Kv,Kw,Kx,Ky,Kz,Ma,Mb,Mc,Md,Me,Mf,Mg,Mh,Mi,Mj,Mk,Ml,Mm,Mn,Mo,Mp,Mq,Mr,Ms,Mt,Mu,Mv,Mw],[]⟩ S (fun v S1 => v = (.tup []) ∧ S1 = p.2)) {y0 : HV} {y3 : Sl} {y4 : Int} {y5 : Int} {y12 : Sl} {y13 : Int} {y14 : Int} {y37 : Bool} {S : HS} {p : (Unit) × HS} (h : J2 D H k rec0 rec1 y0 y3 y4 y5 y12 y13 y14 y37 S = some p) : HR base W0 β0 88 none [.code c24,.inBlock 3,.code c27,.inLoop c12,.inBlock 2,.code c28,.inBlock 1,.inLoop c4,.inBlock 0] ⟨[y0,Gb,Gc,(Sl.hv y3),(.int .i64 y4),(.int .i64 y5),Gg,Gh,Gi,Gj,Gk,Gl,(Sl.hv y12),(.int .i64 y13),(.int .i64 y14),Gp,Gq,Gr,Gs,Gt,Gu,Gv,Gw,Gx,Gy,Gz,Ka,Kb,Kc,Kd,Ke,Kf,Kg,Kh,Ki,Kj,Kk,(.bool y37),Km,Kn,Ko,Kp,Kq,Kr,Ks,Kt,Ku,Kv,Kw,Kx,Ky,Kz,Ma,Mb,Mc,Md,Me,Mf,Mg,Mh,Mi,Mj,Mk,Ml,Mm,Mn,Mo,Mp,Mq,Mr,Ms,Mt,Mu,Mv,Mw],[]⟩ S (fun v S1 => v = (.tup []) ∧ S1 = p.2) := by
 unfold J2 at h
 rcases ifc h with ⟨hc9,h⟩ | ⟨hc9,h⟩
 ·refine q_cond_t rfl (.tmp rfl) hc9 (qR rfl rfl (qS 38 rfl (oM · rfl) (qS 4 rfl (oA · rfl) (rE ?_))))
  try dsimp only [w0,w1,w2,w3]
  refine hr_inBlock ?_
  try dsimp only [w0,w1,w2,w3]
  exact J3_snd hD hH hrec0 hrec1 h
 ·refine q_cond_f rfl (.tmp rfl) (bfalse hc9) (q_skipc rfl (hr_inBlock ?_))
  try dsimp only [w0,w1,w2,w3]
  exact J3_snd hD hH hrec0 hrec1 h
def J6 (D : Dp) (H : Hd) (k : Nat) (rec0 : HV → Sl → Int → Sl → Int → Int → HS → Option ((Unit) × HS)) (rec1 : HV → Sl → HS → Option ((Unit) × HS)) (y0 : HV) (y3 : Sl) (y7 : Int) (y48 : Sl) (y49 : Int) (y50 : Int) (S : HS) : Option ((Unit) × HS) :=
 rec0 y0 y3 y7 y48 y49 (w64 (y50 + 1)) S
theorem J6_snd {rec0 : HV → Sl → Int → Sl → Int → Int → HS → Option ((Unit) × HS)} {rec1 : HV → Sl → HS → Option ((Unit) × HS)} (hD : DS base W0 D) (hH : HT base W0 β0 H) (hrec0 : ∀ ⦃y0 : HV⦄ ⦃y3 : Sl⦄ ⦃y7 : Int⦄ ⦃y48 : Sl⦄ ⦃y49 : Int⦄ ⦃y50 : Int⦄ ⦃S : HS⦄ ⦃p : (Unit) × HS⦄ ⦃Gb Gc Ge Gf Gg Gi Gj Gk Gl Gm Gn Go Gp Gq Gr Gs Gt Gu Gv Gw Gx Gy Gz Ka Kb Kc Kd Ke Kf Kg Kh Ki Kj Kk Kl Km Kn Ko Kp Kq Kr Ks Kt Ku Kv Kz Ma Mb Mc Md Me Mf Mg Mh Mi Mj Mk Ml Mm Mn Mo Mp Mq Mr Ms Mt Mu Mv Mw : HV⦄,rec0 y0 y3 y7 y48 y49 y50 S = some p → HR base W0 β0 88 none [.inLoop c41,.inBlock 4,.code c57,.inBlock 1,.inLoop c4,.inBlock 0] ⟨[y0,Gb,Gc,(Sl.hv y3),Ge,Gf,Gg,(.int .i64 y7),Gi,Gj,Gk,Gl,Gm,Gn,Go,Gp,Gq,Gr,Gs,Gt,Gu,Gv,Gw,Gx,Gy,Gz,Ka,Kb,Kc,Kd,Ke,Kf,Kg,Kh,Ki,Kj,Kk,Kl,Km,Kn,Ko,Kp,Kq,Kr,Ks,Kt,Ku,Kv,(Sl.hv y48),(.int .i64 y49),(.int .i64 y50),Kz,Ma,Mb,Mc,Md,Me,Mf,Mg,Mh,Mi,Mj,Mk,Ml,Mm,Mn,Mo,Mp,Mq,Mr,Ms,Mt,Mu,Mv,Mw],[]⟩ S (fun v S1 => v = (.tup []) ∧ S1 = p.2)) (hrec1 : ∀ ⦃y0 : HV⦄ ⦃y3 : Sl⦄ ⦃S : HS⦄ ⦃p : (Unit) × HS⦄ ⦃Gb Gc Ge Gf Gg Gh Gi Gj Gk Gl Gm Gn Go Gp Gq Gr Gs Gt Gu Gv Gw Gx Gy Gz Ka Kb Kc Kd Ke Kf Kg Kh Ki Kj Kk Kl Km Kn Ko Kp Kq Kr Ks Kt Ku Kv Kw Kx Ky Kz Ma Mb Mc Md Me Mf Mg Mh Mi Mj Mk Ml Mm Mn Mo Mp Mq Mr Ms Mt Mu Mv Mw : HV⦄,rec1 y0 y3 S = some p → HR base W0 β0 88 none [.inLoop c4,.inBlock 0] ⟨[y0,Gb,Gc,(Sl.hv y3),Ge,Gf,Gg,Gh,Gi,Gj,Gk,Gl,Gm,Gn,Go,Gp,Gq,Gr,Gs,Gt,Gu,Gv,Gw,Gx,Gy,Gz,Ka,Kb,Kc,Kd,Ke,Kf,Kg,Kh,Ki,Kj,Kk,Kl,Km,Kn,Ko,Kp,Kq,Kr,Ks,Kt,Ku,Kv,Kw,Kx,Ky,Kz,Ma,Mb,Mc,Md,Me,Mf,Mg,Mh,Mi,Mj,Mk,Ml,Mm,Mn,Mo,Mp,Mq,Mr,Ms,Mt,Mu,Mv,Mw],[]⟩ S (fun v S1 => v = (.tup []) ∧ S1 = p.2)) {y0 : HV} {y3 : Sl} {y7 : Int} {y48 : Sl} {y49 : Int} {y50 : Int} {S : HS} {p : (Unit) × HS} (h : J6 D H k rec0 rec1 y0 y3 y7 y48 y49 y50 S = some p) : HR base W0 β0 88 none [.code c56,.inLoop c41,.inBlock 4,.code c57,.inBlock 1,.inLoop c4,.inBlock 0] ⟨[y0,Gb,Gc,(Sl.hv y3),Ge,Gf,Gg,(.int .i64 y7),Gi,Gj,Gk,Gl,Gm,Gn,Go,Gp,Gq,Gr,Gs,Gt,Gu,Gv,Gw,Gx,Gy,Gz,Ka,Kb,Kc,Kd,Ke,Kf,Kg,Kh,Ki,Kj,Kk,Kl,Km,Kn,Ko,Kp,Kq,Kr,Ks,Kt,Ku,Kv,(Sl.hv y48),(.int .i64 y49),(.int .i64 y50),Kz,Ma,Mb,Mc,Md,Me,Mf,Mg,Mh,Mi,Mj,Mk,Ml,Mm,Mn,Mo,Mp,Mq,Mr,Ms,Mt,Mu,Mv,Mw],[]⟩ S (fun v S1 => v = (.tup []) ∧ S1 = p.2) := by
 unfold J6 at h
 refine qR rfl rfl (qS 70 rfl (oC · rfl rfl) (qS 50 rfl (oM · rfl) (rE ?_)))
 try dsimp only [w0,w1,w2,w3]
 exact hrec0 h
def J5 (D : Dp) (H : Hd) (k : Nat) (rec0 : HV → Sl → Int → Sl → Int → Int → HS → Option ((Unit) × HS)) (rec1 : HV → Sl → HS → Option ((Unit) × HS)) (y0 : HV) (y3 : Sl) (y7 : Int) (y8 : Int) (y9 : Sl) (y48 : Sl) (y49 : Int) (y50 : Int) (y64 : Bool) (S : HS) : Option ((Unit) × HS) :=
 (if y64 = true then
 ((S.cut y9 1 (Sl.len y9 : Int) 1).bind fun p28 =>
 ((S.idx y3 y8 1).bind fun p29 =>
 ((S.sets p29 [(Sl.hv p28)]).bind fun p30 =>
 J6 D H k rec0 rec1 y0 y3 y7 y48 y49 y50 p30))) else
 J6 D H k rec0 rec1 y0 y3 y7 y48 y49 y50 S)
theorem J5_snd {rec0 : HV → Sl → Int → Sl → Int → Int → HS → Option ((Unit) × HS)} {rec1 : HV → Sl → HS → Option ((Unit) × HS)} (hD : DS base W0 D) (hH : HT base W0 β0 H) (hrec0 : ∀ ⦃y0 : HV⦄ ⦃y3 : Sl⦄ ⦃y7 : Int⦄ ⦃y48 : Sl⦄ ⦃y49 : Int⦄ ⦃y50 : Int⦄ ⦃S : HS⦄ ⦃p : (Unit) × HS⦄ ⦃Gb Gc Ge Gf Gg Gi Gj Gk Gl Gm Gn Go Gp Gq Gr Gs Gt Gu Gv Gw Gx Gy Gz Ka Kb Kc Kd Ke Kf Kg Kh Ki Kj Kk Kl Km Kn Ko Kp Kq Kr Ks Kt Ku Kv Kz Ma Mb Mc Md Me Mf Mg Mh Mi Mj Mk Ml Mm Mn Mo Mp Mq Mr Ms Mt Mu Mv Mw : HV⦄,rec0 y0 y3 y7 y48 y49 y50 S = some p → HR base W0 β0 88 none [.inLoop c41,.inBlock 4,.code c57,.inBlock 1,.inLoop c4,.inBlock 0] ⟨[y0,Gb,Gc,(Sl.hv y3),Ge,Gf,Gg,(.int .i64 y7),Gi,Gj,Gk,Gl,Gm,Gn,Go,Gp,Gq,Gr,Gs,Gt,Gu,Gv,Gw,Gx,Gy,Gz,Ka,Kb,Kc,Kd,Ke,Kf,Kg,Kh,Ki,Kj,Kk,Kl,Km,Kn,Ko,Kp,Kq,Kr,Ks,Kt,Ku,Kv,(Sl.hv y48),(.int .i64 y49),(.int .i64 y50),Kz,Ma,Mb,Mc,Md,Me,Mf,Mg,Mh,Mi,Mj,Mk,Ml,Mm,Mn,Mo,Mp,Mq,Mr,Ms,Mt,Mu,Mv,Mw],[]⟩ S (fun v S1 => v = (.tup []) ∧ S1 = p.2)) (hrec1 : ∀ ⦃y0 : HV⦄ ⦃y3 : Sl⦄ ⦃S : HS⦄ ⦃p : (Unit) × HS⦄ ⦃Gb Gc Ge Gf Gg Gh Gi Gj Gk Gl Gm Gn Go Gp Gq Gr Gs Gt Gu Gv Gw Gx Gy Gz Ka Kb Kc Kd Ke Kf Kg Kh Ki Kj Kk Kl Km Kn Ko Kp Kq Kr Ks Kt Ku Kv Kw Kx Ky Kz Ma Mb Mc Md Me Mf Mg Mh Mi Mj Mk Ml Mm Mn Mo Mp Mq Mr Ms Mt Mu Mv Mw : HV⦄,rec1 y0 y3 S = some p → HR base W0 β0 88 none [.inLoop c4,.inBlock 0] ⟨[y0,Gb,Gc,(Sl.hv y3),Ge,Gf,Gg,Gh,Gi,Gj,Gk,Gl,Gm,Gn,Go,Gp,Gq,Gr,Gs,Gt,Gu,Gv,Gw,Gx,Gy,Gz,Ka,Kb,Kc,Kd,Ke,Kf,Kg,Kh,Ki,Kj,Kk,Kl,Km,Kn,Ko,Kp,Kq,Kr,Ks,Kt,Ku,Kv,Kw,Kx,Ky,Kz,Ma,Mb,Mc,Md,Me,Mf,Mg,Mh,Mi,Mj,Mk,Ml,Mm,Mn,Mo,Mp,Mq,Mr,Ms,Mt,Mu,Mv,Mw],[]⟩ S (fun v S1 => v = (.tup []) ∧ S1 = p.2)) {y0 : HV} {y3 : Sl} {y7 : Int} {y8 : Int} {y9 : Sl} {y48 : Sl} {y49 : Int} {y50 : Int} {y64 : Bool} {S : HS} {p : (Unit) × HS} (h : J5 D H k rec0 rec1 y0 y3 y7 y8 y9 y48 y49 y50 y64 S = some p) : HR base W0 β0 88 none [.code c53,.inBlock 5,.code c56,.inLoop c41,.inBlock 4,.code c57,.inBlock 1,.inLoop c4,.inBlock 0] ⟨[y0,Gb,Gc,(Sl.hv y3),Ge,Gf,Gg,(.int .i64 y7),(.int .i64 y8),(Sl.hv y9),Gk,Gl,Gm,Gn,Go,Gp,Gq,Gr,Gs,Gt,Gu,Gv,Gw,Gx,Gy,Gz,Ka,Kb,Kc,Kd,Ke,Kf,Kg,Kh,Ki,Kj,Kk,Kl,Km,Kn,Ko,Kp,Kq,Kr,Ks,Kt,Ku,Kv,(Sl.hv y48),(.int .i64 y49),(.int .i64 y50),Kz,Ma,Mb,Mc,Md,Me,Mf,Mg,Mh,Mi,Mj,Mk,Ml,(.bool y64),Mn,Mo,Mp,Mq,Mr,Ms,Mt,Mu,Mv,Mw],[]⟩ S (fun v S1 => v = (.tup []) ∧ S1 = p.2) := by
 unfold J5 at h
 rcases ifc h with ⟨hc27,h⟩ | ⟨hc27,h⟩
 ·obtain ⟨p28,hp28,h⟩ := bindo h
  refine q_cond_t rfl (.tmp rfl) hc27 (qR rfl rfl (qS 65 rfl (oM · rfl) (qS 66 rfl (oM · rfl) (qS 67 rfl (oM · rfl) (qS 68 rfl (ok_slice (kl := .i64) (kh := .i64) (s := y9) (l := 1) (h := (Sl.len y9 : Int)) · tu42 si3 (.tmp rfl) (.inr ⟨_,rfl,(.int _ _)⟩) (.inl ⟨rfl,rfl⟩) hp28) ?_)))))
  try dsimp only [w0,w1,w2,w3]
  obtain ⟨p29,hp29,h⟩ := bindo h
  obtain ⟨p30,hp30,h⟩ := bindo h
  refine qS 69 rfl (oX (s := y3) · tu144 sz42 rfl rfl hp29) (qN rfl (ok_store_s (v := (Sl.hv p28)) · sz42 (.tmp rfl) rfl (.tmp rfl) rfl hp30) (rE ?_))
  try dsimp only [w0,w1,w2,w3]
  refine hr_inBlock ?_
  try dsimp only [w0,w1,w2,w3]
  exact J6_snd hD hH hrec0 hrec1 h
 ·refine q_cond_f rfl (.tmp rfl) (bfalse hc27) (q_skipc rfl (hr_inBlock ?_))
  try dsimp only [w0,w1,w2,w3]
  exact J6_snd hD hH hrec0 hrec1 h
def L4 (D : Dp) (H : Hd) (k : Nat) (rec0 : HV → Sl → HS → Option ((Unit) × HS)) : Nat → HV → Sl → Int → Sl → Int → Int → HS → Option ((Unit) × HS)
 | 0,_,_,_,_,_,_,_ => none
 | n + 1,y0,y3,y7,y48,y49,y50,S =>
  (if y50 < y49 then
  ((S.idx y48 y50 1).bind fun p22 =>
  ((S.ldSl p22).bind fun p23 =>
  (if (Sl.len p23 : Int) > 0 then
  ((S.idx p23 0 1).bind fun p25 =>
  ((S.ldI .i64 p25).bind fun p26 =>
  J5 D H k (L4 D H k rec0 n) rec0 y0 y3 y7 y50 p23 y48 y49 y50 (decide (p26 = y7)) S)) else
  J5 D H k (L4 D H k rec0 n) rec0 y0 y3 y7 y50 p23 y48 y49 y50 false S))) else
  ((D H y0 [(.int .i64 y7)] S).bind fun p31 =>
  ((dB p31.1).bind fun p32 =>
  (if (!p32) = true then
  some ((),p31.2) else
  rec0 y0 y3 p31.2))))
theorem L4_snd {rec0 : HV → Sl → HS → Option ((Unit) × HS)} (hD : DS base W0 D) (hH : HT base W0 β0 H) (hrec0 : ∀ ⦃y0 : HV⦄ ⦃y3 : Sl⦄ ⦃S : HS⦄ ⦃p : (Unit) × HS⦄ ⦃Gb Gc Ge Gf Gg Gh Gi Gj Gk Gl Gm Gn Go Gp Gq Gr Gs Gt Gu Gv Gw Gx Gy Gz Ka Kb Kc Kd Ke Kf Kg Kh Ki Kj Kk Kl Km Kn Ko Kp Kq Kr Ks Kt Ku Kv Kw Kx Ky Kz Ma Mb Mc Md Me Mf Mg Mh Mi Mj Mk Ml Mm Mn Mo Mp Mq Mr Ms Mt Mu Mv Mw : HV⦄,rec0 y0 y3 S = some p → HR base W0 β0 88 none [.inLoop c4,.inBlock 0] ⟨[y0,Gb,Gc,(Sl.hv y3),Ge,Gf,Gg,Gh,Gi,Gj,Gk,Gl,Gm,Gn,Go,Gp,Gq,Gr,Gs,Gt,Gu,Gv,Gw,Gx,Gy,Gz,Ka,Kb,Kc,Kd,Ke,Kf,Kg,Kh,Ki,Kj,Kk,Kl,Km,Kn,Ko,Kp,Kq,Kr,Ks,Kt,Ku,Kv,Kw,Kx,Ky,Kz,Ma,Mb,Mc,Md,Me,Mf,Mg,Mh,Mi,Mj,Mk,Ml,Mm,Mn,Mo,Mp,Mq,Mr,Ms,Mt,Mu,Mv,Mw],[]⟩ S (fun v S1 => v = (.tup []) ∧ S1 = p.2)) : ∀ {n : Nat} ⦃y0 : HV⦄ ⦃y3 : Sl⦄ ⦃y7 : Int⦄ ⦃y48 : Sl⦄ ⦃y49 : Int⦄ ⦃y50 : Int⦄ ⦃S : HS⦄ ⦃p : (Unit) × HS⦄ ⦃Gb Gc Ge Gf Gg Gi Gj Gk Gl Gm Gn Go Gp Gq Gr Gs Gt Gu Gv Gw Gx Gy Gz Ka Kb Kc Kd Ke Kf Kg Kh Ki Kj Kk Kl Km Kn Ko Kp Kq Kr Ks Kt Ku Kv Kz Ma Mb Mc Md Me Mf Mg Mh Mi Mj Mk Ml Mm Mn Mo Mp Mq Mr Ms Mt Mu Mv Mw : HV⦄,L4 D H k rec0 n y0 y3 y7 y48 y49 y50 S = some p → HR base W0 β0 88 none [.inLoop c41,.inBlock 4,.code c57,.inBlock 1,.inLoop c4,.inBlock 0] ⟨[y0,Gb,Gc,(Sl.hv y3),Ge,Gf,Gg,(.int .i64 y7),Gi,Gj,Gk,Gl,Gm,Gn,Go,Gp,Gq,Gr,Gs,Gt,Gu,Gv,Gw,Gx,Gy,Gz,Ka,Kb,Kc,Kd,Ke,Kf,Kg,Kh,Ki,Kj,Kk,Kl,Km,Kn,Ko,Kp,Kq,Kr,Ks,Kt,Ku,Kv,(Sl.hv y48),(.int .i64 y49),(.int .i64 y50),Kz,Ma,Mb,Mc,Md,Me,Mf,Mg,Mh,Mi,Mj,Mk,Ml,Mm,Mn,Mo,Mp,Mq,Mr,Ms,Mt,Mu,Mv,Mw],[]⟩ S (fun v S1 => v = (.tup []) ∧ S1 = p.2) := by
 intro n
 induction n with
 | zero => intro _ _ _ _ _ _ _ _ _ _ _ _ _ _ _ _ _ _ _ _ _ _ _ _ _ _ _ _ _ _ _ _ _ _ _ _ _ _ _ _ _ _ _ _ _ _ _ _ _ _ _ _ _ _ _ _ _ _ _ _ _ _ _ _ _ _ _ _ _ _ _ _ _ _ _ _ _ h; cases h
 | succ n ih =>
  intro y0 y3 y7 y48 y49 y50 S p Gb Gc Ge Gf Gg Gi Gj Gk Gl Gm Gn Go Gp Gq Gr Gs Gt Gu Gv Gw Gx Gy Gz Ka Kb Kc Kd Ke Kf Kg Kh Ki Kj Kk Kl Km Kn Ko Kp Kq Kr Ks Kt Ku Kv Kz Ma Mb Mc Md Me Mf Mg Mh Mi Mj Mk Ml Mm Mn Mo Mp Mq Mr Ms Mt Mu Mv Mw h
  simp only [L4] at h
  refine hr_inLoop (qQ rfl (qR rfl rfl (qS 51 rfl (oB · rfl rfl rfl) (rE ?_))))
  try dsimp only [w0,w1,w2,w3]
  refine qQ rfl ?_
  rcases ifc h with ⟨hc21,h⟩ | ⟨hc21,h⟩
  ·obtain ⟨p22,hp22,h⟩ := bindo h
   obtain ⟨p23,hp23,h⟩ := bindo h
   refine q_cond_t rfl (.tmp rfl) (decide_eq_true hc21) (q_skipc rfl (qQ rfl (q_block rfl (qQ rfl (qR rfl rfl (qS 52 rfl (oM · rfl) (qS 53 rfl (oX (s := y48) · tu144 sz42 rfl rfl hp22) (qS 54 rfl (oL · sc42 rfl rfl (ldSl_out hp23)) (qS 8 rfl (oA · rfl) ?_)))))))))
   try dsimp only [w0,w1,w2,w3]
   refine qS 9 rfl (oA · rfl) (rE ?_)
   try dsimp only [w0,w1,w2,w3]
   refine qQ rfl (qR rfl rfl (qS 55 rfl (oM · rfl) (qS 56 rfl (ok_len_sl (q := Sl.a p23) (n := Sl.len p23) (z := Sl.cap p23) · rfl tu42 (.tmp rfl)) (qS 57 rfl (oC · rfl rfl) (qS 58 rfl (oM · rfl) ?_)))))
   try dsimp only [w0,w1,w2,w3]
   rcases ifc h with ⟨hc24,h⟩ | ⟨hc24,h⟩
   ·obtain ⟨p25,hp25,h⟩ := bindo h
    obtain ⟨p26,hp26,h⟩ := bindo h
    refine qG 58 59 rfl (decide_eq_true hc24) (oM · rfl) (qG 58 60 rfl (decide_eq_true hc24) (ok_indexAddr (s := p23) · tu42 sz3 (.tmp rfl) (.int _ _) hp25) (qG 58 61 rfl (decide_eq_true hc24) (oL · sc3 rfl rfl (ldI_out hp26)) (qG 58 62 rfl (decide_eq_true hc24) (oM · rfl) ?_)))
    try dsimp only [w0,w1,w2,w3]
    refine qG 58 63 rfl (decide_eq_true hc24) (oB · rfl rfl rfl) (qS 64 rfl (ok_pick_tt · (.tmp rfl) (decide_eq_true hc24) (.tmp rfl)) (rE ?_))
    try dsimp only [w0,w1,w2,w3]
    exact J5_snd hD hH ih hrec0 h
   ·refine q_skip (dst := some 59) (t := 58) rfl rfl rfl (decide_eq_false hc24) (q_skip (dst := some 60) (t := 58) rfl rfl rfl (decide_eq_false hc24) (q_skip (dst := some 61) (t := 58) rfl rfl rfl (decide_eq_false hc24) (q_skip (dst := some 62) (t := 58) rfl rfl rfl (decide_eq_false hc24) ?_)))
    try dsimp only [w0,w1,w2,w3]
    refine q_skip (dst := some 63) (t := 58) rfl rfl rfl (decide_eq_false hc24) (qS 64 rfl (ok_pick_ff · (.tmp rfl) (decide_eq_false hc24) (.bool _)) (rE ?_))
    try dsimp only [w0,w1,w2,w3]
    exact J5_snd hD hH ih hrec0 h
  ·obtain ⟨p31,hp31,h⟩ := bindo h
   obtain ⟨p32,hp32,h⟩ := bindo h
   refine q_cond_f rfl (.tmp rfl) (decide_eq_false hc21) (q_exit rfl rfl (qQ rfl (qR rfl rfl (qS 71 rfl (oM · rfl) (qS 72 rfl (oM · rfl) (q_call (dst := some 73) rfl (.tmp rfl) (.cons (.tmp rfl) Evs.nil) (hD _ _ hH _ _ _ _ _ hp31) ?_))))))
   rintro _ _ ⟨rfl,rfl⟩
   rw [dB_out hp32]
   refine qS 74 rfl (ok_not · (.tmp rfl)) (rE ?_)
   try dsimp only [w0,w1,w2,w3]
   rcases ifc h with ⟨hc33,h⟩ | ⟨hc33,h⟩
   ·cases h
    exact q_cond_t rfl (.tmp rfl) hc33 (q_ret rfl at_.at_ rfl (res0 rfl) ⟨rfl,rfl⟩)
   ·refine q_cond_f rfl (.tmp rfl) (bfalse hc33) (q_skipc rfl (hr_inBlock ?_))
    try dsimp only [w0,w1,w2,w3]
    exact hrec0 h
def L1 (D : Dp) (H : Hd) (k : Nat) (rec0 : HV → Sl → HS → Option ((Unit) × HS)) : Nat → HV → Sl → Int → Sl → Int → Int → HS → Option ((Unit) × HS)
 | 0,_,_,_,_,_,_,_ => none
 | n + 1,y0,y3,y4,y12,y13,y14,S =>
  (if y14 < y13 then
  ((S.idx y12 y14 1).bind fun p5 =>
  ((S.ldSl p5).bind fun p6 =>
  (if (Sl.len p6 : Int) > 0 then
  (if y4 < 0 then
  J2 D H k (L1 D H k rec0 n) rec0 y0 y3 y4 y14 y12 y13 y14 true S else
  ((S.idx p6 0 1).bind fun p10 =>
  ((S.ldI .i64 p10).bind fun p11 =>
  ((S.idx y3 y4 1).bind fun p12 =>
  ((S.ldSl p12).bind fun p13 =>
  ((S.idx p13 0 1).bind fun p14 =>
  ((S.ldI .i64 p14).bind fun p15 =>
  J2 D H k (L1 D H k rec0 n) rec0 y0 y3 y4 y14 y12 y13 y14 (decide (p11 < p15)) S))))))) else
  J2 D H k (L1 D H k rec0 n) rec0 y0 y3 y4 y14 y12 y13 y14 false S))) else
  (if y4 < 0 then
  some ((),S) else
  ((S.idx y3 y4 1).bind fun p17 =>
  ((S.ldSl p17).bind fun p18 =>
  ((S.idx p18 0 1).bind fun p19 =>
  ((S.ldI .i64 p19).bind fun p20 =>
  L4 D H k rec0 k y0 y3 p20 y3 (Sl.len y3 : Int) 0 S))))))
theorem L1_snd {rec0 : HV → Sl → HS → Option ((Unit) × HS)} (hD : DS base W0 D) (hH : HT base W0 β0 H) (hrec0 : ∀ ⦃y0 : HV⦄ ⦃y3 : Sl⦄ ⦃S : HS⦄ ⦃p : (Unit) × HS⦄ ⦃Gb Gc Ge Gf Gg Gh Gi Gj Gk Gl Gm Gn Go Gp Gq Gr Gs Gt Gu Gv Gw Gx Gy Gz Ka Kb Kc Kd Ke Kf Kg Kh Ki Kj Kk Kl Km Kn Ko Kp Kq Kr Ks Kt Ku Kv Kw Kx Ky Kz Ma Mb Mc Md Me Mf Mg Mh Mi Mj Mk Ml Mm Mn Mo Mp Mq Mr Ms Mt Mu Mv Mw : HV⦄,rec0 y0 y3 S = some p → HR base W0 β0 88 none [.inLoop c4,.inBlock 0] ⟨[y0,Gb,Gc,(Sl.hv y3),Ge,Gf,Gg,Gh,Gi,Gj,Gk,Gl,Gm,Gn,Go,Gp,Gq,Gr,Gs,Gt,Gu,Gv,Gw,Gx,Gy,Gz,Ka,Kb,Kc,Kd,Ke,Kf,Kg,Kh,Ki,Kj,Kk,Kl,Km,Kn,Ko,Kp,Kq,Kr,Ks,Kt,Ku,Kv,Kw,Kx,Ky,Kz,Ma,Mb,Mc,Md,Me,Mf,Mg,Mh,Mi,Mj,Mk,Ml,Mm,Mn,Mo,Mp,Mq,Mr,Ms,Mt,Mu,Mv,Mw],[]⟩ S (fun v S1 => v = (.tup []) ∧ S1 = p.2)) : ∀ {n : Nat} ⦃y0 : HV⦄ ⦃y3 : Sl⦄ ⦃y4 : Int⦄ ⦃y12 : Sl⦄ ⦃y13 : Int⦄ ⦃y14 : Int⦄ ⦃S : HS⦄ ⦃p : (Unit) × HS⦄ ⦃Gb Gc Gf Gg Gh Gi Gj Gk Gl Gp Gq Gr Gs Gt Gu Gv Gw Gx Gy Gz Ka Kb Kc Kd Ke Kf Kg Kh Ki Kj Kk Kl Km Kn Ko Kp Kq Kr Ks Kt Ku Kv Kw Kx Ky Kz Ma Mb Mc Md Me Mf Mg Mh Mi Mj Mk Ml Mm Mn Mo Mp Mq Mr Ms Mt Mu Mv Mw : HV⦄,L1 D H k rec0 n y0 y3 y4 y12 y13 y14 S = some p → HR base W0 β0 88 none [.inLoop c12,.inBlock 2,.code c28,.inBlock 1,.inLoop c4,.inBlock 0] ⟨[y0,Gb,Gc,(Sl.hv y3),(.int .i64 y4),Gf,Gg,Gh,Gi,Gj,Gk,Gl,(Sl.hv y12),(.int .i64 y13),(.int .i64 y14),Gp,Gq,Gr,Gs,Gt,Gu,Gv,Gw,Gx,Gy,Gz,Ka,Kb,Kc,Kd,Ke,Kf,Kg,Kh,Ki,Kj,Kk,Kl,Km,Kn,Ko,Kp,Kq,Kr,Ks,Kt,Ku,Kv,Kw,Kx,Ky,Kz,Ma,Mb,Mc,Md,Me,Mf,Mg,Mh,Mi,Mj,Mk,Ml,Mm,Mn,Mo,Mp,Mq,Mr,Ms,Mt,Mu,Mv,Mw],[]⟩ S (fun v S1 => v = (.tup []) ∧ S1 = p.2) := by
 intro n
 induction n with
 | zero => intro _ _ _ _ _ _ _ _ _ _ _ _ _ _ _ _ _ _ _ _ _ _ _ _ _ _ _ _ _ _ _ _ _ _ _ _ _ _ _ _ _ _ _ _ _ _ _ _ _ _ _ _ _ _ _ _ _ _ _ _ _ _ _ _ _ _ _ _ _ _ _ _ _ _ _ _ _ h; cases h
 | succ n ih =>
  intro y0 y3 y4 y12 y13 y14 S p Gb Gc Gf Gg Gh Gi Gj Gk Gl Gp Gq Gr Gs Gt Gu Gv Gw Gx Gy Gz Ka Kb Kc Kd Ke Kf Kg Kh Ki Kj Kk Kl Km Kn Ko Kp Kq Kr Ks Kt Ku Kv Kw Kx Ky Kz Ma Mb Mc Md Me Mf Mg Mh Mi Mj Mk Ml Mm Mn Mo Mp Mq Mr Ms Mt Mu Mv Mw h
  simp only [L1] at h
  refine hr_inLoop (qQ rfl (qR rfl rfl (qS 15 rfl (oB · rfl rfl rfl) (rE ?_))))
  try dsimp only [w0,w1,w2,w3]
  refine qQ rfl ?_
  rcases ifc h with ⟨hc4,h⟩ | ⟨hc4,h⟩
  ·obtain ⟨p5,hp5,h⟩ := bindo h
   obtain ⟨p6,hp6,h⟩ := bindo h
   refine q_cond_t rfl (.tmp rfl) (decide_eq_true hc4) (q_skipc rfl (qQ rfl (q_block rfl (qQ rfl (qR rfl rfl (qS 16 rfl (oM · rfl) (qS 17 rfl (oX (s := y12) · tu144 sz42 rfl rfl hp5) (qS 18 rfl (oL · sc42 rfl rfl (ldSl_out hp6)) (qS 5 rfl (oA · rfl) ?_)))))))))
   try dsimp only [w0,w1,w2,w3]
   refine qS 6 rfl (oA · rfl) (rE ?_)
   try dsimp only [w0,w1,w2,w3]
   refine qQ rfl ?_
   refine x_start (cls := [0,0,0,0,0,0,0,0,1,1,0,0,1,1,1,1,0,0,0]) (rk := [0,1,2,3,4,5,6,7,8,9,10,11,12,13,14,15,16,17,18]) rfl (by kernel_rfl) ?_
   refine yf 19 [6] rfl (oM · rfl) ?_
   refine yf 20 [19] rfl (ok_len_sl (q := Sl.a p6) (n := Sl.len p6) (z := Sl.cap p6) · rfl tu42 (.tmp rfl)) ?_
   refine yf 21 [20] rfl (oC · rfl rfl) ?_
   refine yf 22 [21] rfl (oM · rfl) ?_
   try dsimp only [w0,w1,w2,w3]
   rcases ifc h with ⟨hc7,h⟩ | ⟨hc7,h⟩
   ·refine yfg 23 22 [4,22] rfl (decide_eq_true hc7) (oM · rfl) ?_
    refine yfg 24 22 [23,22] rfl (decide_eq_true hc7) (oC · rfl rfl) ?_
    refine yfg 25 22 [24,22] rfl (decide_eq_true hc7) (oM · rfl) ?_
    rcases ifc h with ⟨hc8,h⟩ | ⟨hc8,h⟩
    ·refine yfs 26 25 [6,25] rfl (decide_eq_true hc8) ?_
     try dsimp only [w0,w1,w2,w3]
     refine yrs 27 25 [26,25] rfl (decide_eq_true hc8) ?_
     refine yrs 28 25 [27,25] rfl (decide_eq_true hc8) ?_
     refine yfs 29 25 [3,25] rfl (decide_eq_true hc8) ?_
     refine yfs 30 25 [4,25] rfl (decide_eq_true hc8) ?_
     try dsimp only [w0,w1,w2,w3]
     refine yrs 31 25 [29,30,25] rfl (decide_eq_true hc8) ?_
     refine yrs 32 25 [31,25] rfl (decide_eq_true hc8) ?_
     refine yrs 33 25 [32,25] rfl (decide_eq_true hc8) ?_
     refine yrs 34 25 [33,25] rfl (decide_eq_true hc8) ?_
     try dsimp only [w0,w1,w2,w3]
     refine yfs 35 25 [28,34,25] rfl (decide_eq_true hc8) ?_
     refine yfg 36 22 [25,35,22] rfl (decide_eq_true hc7) (ok_pick_tt · (.tmp rfl) (decide_eq_true hc8) (.bool _)) ?_
     refine yf 37 [22,36] rfl (ok_pick_tt · (.tmp rfl) (decide_eq_true hc7) (.tmp rfl)) ?_
     refine x_rest rfl ?_
     refine rE ?_
     try dsimp only [w0,w1,w2,w3]
     exact J2_snd hD hH ih hrec0 h
    ·refine yfg 26 25 [6,25] rfl (decide_eq_false hc8) (oM · rfl) ?_
     try dsimp only [w0,w1,w2,w3]
     obtain ⟨p10,hp10,h⟩ := bindo h
     refine yrg 27 25 [26,25] rfl (decide_eq_false hc8) (ok_indexAddr (s := p6) · tu42 sz3 (.tmp rfl) (.int _ _) hp10) ?_
     obtain ⟨p11,hp11,h⟩ := bindo h
     refine yrg 28 25 [27,25] rfl (decide_eq_false hc8) (oL · sc3 rfl rfl (ldI_out hp11)) ?_
     refine yfg 29 25 [3,25] rfl (decide_eq_false hc8) (oM · rfl) ?_
     refine yfg 30 25 [4,25] rfl (decide_eq_false hc8) (oM · rfl) ?_
     try dsimp only [w0,w1,w2,w3]
     obtain ⟨p12,hp12,h⟩ := bindo h
     refine yrg 31 25 [29,30,25] rfl (decide_eq_false hc8) (oX (s := y3) · tu144 sz42 rfl rfl hp12) ?_
     obtain ⟨p13,hp13,h⟩ := bindo h
     refine yrg 32 25 [31,25] rfl (decide_eq_false hc8) (oL · sc42 rfl rfl (ldSl_out hp13)) ?_
     obtain ⟨p14,hp14,h⟩ := bindo h
     refine yrg 33 25 [32,25] rfl (decide_eq_false hc8) (ok_indexAddr (s := p13) · tu42 sz3 (.tmp rfl) (.int _ _) hp14) ?_
     obtain ⟨p15,hp15,h⟩ := bindo h
     refine yrg 34 25 [33,25] rfl (decide_eq_false hc8) (oL · sc3 rfl rfl (ldI_out hp15)) ?_
     try dsimp only [w0,w1,w2,w3]
     refine yfg 35 25 [28,34,25] rfl (decide_eq_false hc8) (oB · rfl rfl rfl) ?_
     refine yfg 36 22 [25,35,22] rfl (decide_eq_true hc7) (ok_pick_ff · (.tmp rfl) (decide_eq_false hc8) (.tmp rfl)) ?_
     refine yf 37 [22,36] rfl (ok_pick_tt · (.tmp rfl) (decide_eq_true hc7) (.tmp rfl)) ?_
     refine x_rest rfl ?_
     refine rE ?_
     try dsimp only [w0,w1,w2,w3]
     exact J2_snd hD hH ih hrec0 h
   ·refine yfs 23 22 [4,22] rfl (decide_eq_false hc7) ?_
    refine yfs 24 22 [23,22] rfl (decide_eq_false hc7) ?_
    refine yfs 25 22 [24,22] rfl (decide_eq_false hc7) ?_
    refine x_go (f_skip_u (dst := some 26) (t := 25) (ts := [6,25]) rfl (by kernel_rfl) rfl rfl) rfl ?_
    try dsimp only [w0,w1,w2,w3]
    refine x_go (r_skip_u (dst := some 27) (t := 25) (ts := [26,25]) rfl (by kernel_rfl) rfl rfl) rfl ?_
    refine x_go (r_skip_u (dst := some 28) (t := 25) (ts := [27,25]) rfl (by kernel_rfl) rfl rfl) rfl ?_
    refine x_go (f_skip_u (dst := some 29) (t := 25) (ts := [3,25]) rfl (by kernel_rfl) rfl rfl) rfl ?_
    refine x_go (f_skip_u (dst := some 30) (t := 25) (ts := [4,25]) rfl (by kernel_rfl) rfl rfl) rfl ?_
    try dsimp only [w0,w1,w2,w3]
    refine x_go (r_skip_u (dst := some 31) (t := 25) (ts := [29,30,25]) rfl (by kernel_rfl) rfl rfl) rfl ?_
    refine x_go (r_skip_u (dst := some 32) (t := 25) (ts := [31,25]) rfl (by kernel_rfl) rfl rfl) rfl ?_
    refine x_go (r_skip_u (dst := some 33) (t := 25) (ts := [32,25]) rfl (by kernel_rfl) rfl rfl) rfl ?_
    refine x_go (r_skip_u (dst := some 34) (t := 25) (ts := [33,25]) rfl (by kernel_rfl) rfl rfl) rfl ?_
    try dsimp only [w0,w1,w2,w3]
    refine x_go (f_skip_u (dst := some 35) (t := 25) (ts := [28,34,25]) rfl (by kernel_rfl) rfl rfl) rfl ?_
    refine yfs 36 22 [25,35,22] rfl (decide_eq_false hc7) ?_
    refine yf 37 [22,36] rfl (ok_pick_ff · (.tmp rfl) (decide_eq_false hc7) (.bool _)) ?_
    refine x_rest rfl ?_
    refine rE ?_
    try dsimp only [w0,w1,w2,w3]
    exact J2_snd hD hH ih hrec0 h
  ·refine q_cond_f rfl (.tmp rfl) (decide_eq_false hc4) (q_exit rfl rfl (qQ rfl (qQ rfl (qR rfl rfl (qS 40 rfl (oM · rfl) (qS 41 rfl (oC · rfl rfl) (rE ?_)))))))
   try dsimp only [w0,w1,w2,w3]
   rcases ifc h with ⟨hc16,h⟩ | ⟨hc16,h⟩
   ·cases h
    exact q_cond_t rfl (.tmp rfl) (decide_eq_true hc16) (q_ret rfl at_.at_ rfl (res0 rfl) ⟨rfl,rfl⟩)
   ·obtain ⟨p17,hp17,h⟩ := bindo h
    obtain ⟨p18,hp18,h⟩ := bindo h
    refine q_cond_f rfl (.tmp rfl) (decide_eq_false hc16) (q_skipc rfl (qQ rfl (qR rfl rfl (qS 42 rfl (oM · rfl) (qS 43 rfl (oM · rfl) (qS 44 rfl (oX (s := y3) · tu144 sz42 rfl rfl hp17) (qS 45 rfl (oL · sc42 rfl rfl (ldSl_out hp18)) ?_)))))))
    try dsimp only [w0,w1,w2,w3]
    obtain ⟨p19,hp19,h⟩ := bindo h
    obtain ⟨p20,hp20,h⟩ := bindo h
    refine qS 46 rfl (ok_indexAddr (s := p18) · tu42 sz3 (.tmp rfl) (.int _ _) hp19) (qS 47 rfl (oL · sc3 rfl rfl (ldI_out hp20)) (qS 7 rfl (oA · rfl) (rE ?_)))
    try dsimp only [w0,w1,w2,w3]
    refine qQ rfl (qQ rfl (qR rfl rfl (qS 48 rfl (oM · rfl) (qS 49 rfl (ok_len_sl (q := Sl.a y3) (n := Sl.len y3) (z := Sl.cap y3) · rfl tu144 (.tmp rfl)) (qS 50 rfl (ok_move · (.int _ _)) (rE ?_))))))
    try dsimp only [w0,w1,w2,w3]
    refine q_block rfl (q_loop rfl ?_)
    try dsimp only [w0,w1,w2,w3]
    exact L4_snd hD hH hrec0 h
def L0 (D : Dp) (H : Hd) (k : Nat) : Nat → HV → Sl → HS → Option ((Unit) × HS)
 | 0,_,_,_ => none
 | n + 1,y0,y3,S =>
  L1 D H k (L0 D H k n) k y0 y3 (-1) y3 (Sl.len y3 : Int) 0 S
theorem L0_snd (hD : DS base W0 D) (hH : HT base W0 β0 H)  : ∀ {n : Nat} ⦃y0 : HV⦄ ⦃y3 : Sl⦄ ⦃S : HS⦄ ⦃p : (Unit) × HS⦄ ⦃Gb Gc Ge Gf Gg Gh Gi Gj Gk Gl Gm Gn Go Gp Gq Gr Gs Gt Gu Gv Gw Gx Gy Gz Ka Kb Kc Kd Ke Kf Kg Kh Ki Kj Kk Kl Km Kn Ko Kp Kq Kr Ks Kt Ku Kv Kw Kx Ky Kz Ma Mb Mc Md Me Mf Mg Mh Mi Mj Mk Ml Mm Mn Mo Mp Mq Mr Ms Mt Mu Mv Mw : HV⦄,L0 D H k n y0 y3 S = some p → HR base W0 β0 88 none [.inLoop c4,.inBlock 0] ⟨[y0,Gb,Gc,(Sl.hv y3),Ge,Gf,Gg,Gh,Gi,Gj,Gk,Gl,Gm,Gn,Go,Gp,Gq,Gr,Gs,Gt,Gu,Gv,Gw,Gx,Gy,Gz,Ka,Kb,Kc,Kd,Ke,Kf,Kg,Kh,Ki,Kj,Kk,Kl,Km,Kn,Ko,Kp,Kq,Kr,Ks,Kt,Ku,Kv,Kw,Kx,Ky,Kz,Ma,Mb,Mc,Md,Me,Mf,Mg,Mh,Mi,Mj,Mk,Ml,Mm,Mn,Mo,Mp,Mq,Mr,Ms,Mt,Mu,Mv,Mw],[]⟩ S (fun v S1 => v = (.tup []) ∧ S1 = p.2) := by
 intro n
 induction n with
 | zero => intro _ _ _ _ _ _ _ _ _ _ _ _ _ _ _ _ _ _ _ _ _ _ _ _ _ _ _ _ _ _ _ _ _ _ _ _ _ _ _ _ _ _ _ _ _ _ _ _ _ _ _ _ _ _ _ _ _ _ _ _ _ _ _ _ _ _ _ _ _ _ _ _ _ _ _ _ _ h; cases h
 | succ n ih =>
  intro y0 y3 S p Gb Gc Ge Gf Gg Gh Gi Gj Gk Gl Gm Gn Go Gp Gq Gr Gs Gt Gu Gv Gw Gx Gy Gz Ka Kb Kc Kd Ke Kf Kg Kh Ki Kj Kk Kl Km Kn Ko Kp Kq Kr Ks Kt Ku Kv Kw Kx Ky Kz Ma Mb Mc Md Me Mf Mg Mh Mi Mj Mk Ml Mm Mn Mo Mp Mq Mr Ms Mt Mu Mv Mw h
  simp only [L0] at h
  refine hr_inLoop (q_block rfl (qQ rfl (qR rfl rfl (qS 4 rfl (ok_assign · (.int _ _)) (rE ?_)))))
  try dsimp only [w0,w1,w2,w3]
  refine qQ rfl (qQ rfl (qR rfl rfl (qS 12 rfl (oM · rfl) (qS 13 rfl (ok_len_sl (q := Sl.a y3) (n := Sl.len y3) (z := Sl.cap y3) · rfl tu144 (.tmp rfl)) (qS 14 rfl (ok_move · (.int _ _)) (rE ?_))))))
  try dsimp only [w0,w1,w2,w3]
  refine q_block rfl (q_loop rfl ?_)
  try dsimp only [w0,w1,w2,w3]
  exact L1_snd hD hH ih h
def f (D : Dp) (H : Hd) (k : Nat) (x0 : HV) (x1 : HP) (S : HS) : Option ((Unit) × HS) :=
 (x1.bind fun p1 =>
 ((S.ldSl p1).bind fun p2 =>
 ((slices_Clone_int_int_89.f p2 S).bind fun p3 =>
 L0 D H k k x0 p3.1 p3.2)))
theorem snd {x0 : HV} {x1 : HP} {S : HS} (hD : DS base W0 D) (hH : HT base W0 β0 H)  {p : (Unit) × HS} (h : f D H k x0 x1 S = some p) : HCall Tryz.prog base W0 β0 88 [x0,(.ptr x1)] S (fun v S1 => v = (.tup []) ∧ S1 = p.2) := by
 unfold f at h
 refine HCall.of_run at_.at_ body ?_
 show HR base W0 β0 88 none [.code c0] ⟨[x0,(.ptr x1),τ,τ,τ,τ,τ,τ,τ,τ,τ,τ,τ,τ,τ,τ,τ,τ,τ,τ,τ,τ,τ,τ,τ,τ,τ,τ,τ,τ,τ,τ,τ,τ,τ,τ,τ,τ,τ,τ,τ,τ,τ,τ,τ,τ,τ,τ,τ,τ,τ,τ,τ,τ,τ,τ,τ,τ,τ,τ,τ,τ,τ,τ,τ,τ,τ,τ,τ,τ,τ,τ,τ,τ,τ],[]⟩ S _
 obtain ⟨p1,hp1,h⟩ := bindo h
 obtain ⟨p2,hp2,h⟩ := bindo h
 obtain ⟨p3,hp3,h⟩ := bindo h
 refine qQ rfl (qR rfl rfl (qS 10 rfl (oL · sc144 rfl hp1 (ldSl_out hp2)) (q_call (dst := some 11) rfl (.func _) (.cons (.tmp rfl) Evs.nil) (HInv.static slices_Clone_int_int_89.at_ slices_Clone_int_int_89.body (slices_Clone_int_int_89.snd  hp3)) ?_)))
 rintro _ _ ⟨rfl,rfl⟩
 refine qS 3 rfl (oA · rfl) (rE ?_)
 try dsimp only [w0,w1,w2,w3]
 refine q_block rfl (q_loop rfl ?_)
 try dsimp only [w0,w1,w2,w3]
 exact L0_snd hD hH h
end set_Union_int_1
namespace set_Union_int
theorem at_ : FnAt Tryz.prog 57 Tryz.f57 := ⟨Tryz.func57,by kernel_rfl⟩
def d0 := (Tryz.f57.body).getD .skip
def r1 := kR (kA d0)
def r3 := kR (kA (kB d0))
def d5 := kA (kB (kB d0))
def r6 := kR (kA d5)
def d9 := kA (kA (kB d5))
def r10 := kR (kA d9)
def r18 := kR (kA (kA (kA (kB (kB d9)))))
def r19 := kR (kB (kA (kA (kB (kB d9)))))
def r20 := kR (kB (kB (kB d9)))
def r22 := kR (kA (kB (kB (kB d0))))
def c21 : Code := .seq (.region 7 r22 false) .ret
def c9 : Code := .seq (.region 3 r10 false) (.seq (.cond (.tmp 9) .skip (.exit 0)) (.seq (.block 1 (.seq (.region 4 r18 false) (.region 5 r19 true))) (.region 6 r20 false)))
def c0 : Code := .seq (.region 0 r1 false) (.seq (.region 1 r3 false) (.seq (.seq (.region 2 r6 false) (.block 0 (.loop c9))) c21))
theorem body : Tryz.f57.body = some c0 := by kernel_rfl
def L0 (k : Nat) : Nat → HP → Sl → Int → Int → HS → Option ((HV) × HS)
 | 0,_,_,_,_,_ => none
 | n + 1,y3,y6,y7,y8,S =>
  (if y8 < y7 then
  ((S.idx y6 y8 1).bind fun p3 =>
  ((S.ldP p3).bind fun p4 =>
  (y3.bind fun p5 =>
  ((S.ldSl p5).bind fun p6 =>
  ((set_Set_int_List.f p4 S).bind fun p7 =>
  ((p7.2.ldSl p5).bind fun p8 =>
  (if p8 = p6 then
  (letv (HS.lit p7.2 [[(Sl.hv p7.1)]] 1) fun p10 =>
  ((p10.2.ldSl p5).bind fun p11 =>
  (if p11 = p6 then
  ((p10.2.rows (p10.1) 1).bind fun p13 =>
  ((p10.2.app p6 p13 1).bind fun p14 =>
  (y3.bind fun p15 =>
  ((p14.2.sets p15 [(Sl.hv (p14.1))]).bind fun p16 =>
  (L0 k n) y3 y6 y7 (w64 (y8 + 1)) p16)))) else none))) else none))))))) else
  some ((HV.fn (.func 88) [] [(.ptr y3)]),S))
theorem L0_snd  : ∀ {n : Nat} ⦃y3 : HP⦄ ⦃y6 : Sl⦄ ⦃y7 : Int⦄ ⦃y8 : Int⦄ ⦃S : HS⦄ ⦃p : (HV) × HS⦄ ⦃Ga Gb Gc Ge Gf Gj Gk Gl Gm Gn Go Gp Gq Gr Gs : HV⦄,L0 k n y3 y6 y7 y8 S = some p → HR base W0 β0 57 none [.inLoop c9,.inBlock 0,.code c21] ⟨[Ga,Gb,Gc,(.ptr y3),Ge,Gf,(Sl.hv y6),(.int .i64 y7),(.int .i64 y8),Gj,Gk,Gl,Gm,Gn,Go,Gp,Gq,Gr,Gs],[]⟩ S (fun v S1 => v = p.1 ∧ S1 = p.2) := by
 intro n
 induction n with
 | zero => intro _ _ _ _ _ _ _ _ _ _ _ _ _ _ _ _ _ _ _ _ _ h; cases h
 | succ n ih =>
  intro y3 y6 y7 y8 S p Ga Gb Gc Ge Gf Gj Gk Gl Gm Gn Go Gp Gq Gr Gs h
  simp only [L0] at h
  refine hr_inLoop (qQ rfl (qR rfl rfl (qS 9 rfl (oB · rfl rfl rfl) (rE ?_))))
  try dsimp only [w0,w1,w2,w3]
  refine qQ rfl ?_
  rcases ifc h with ⟨hc2,h⟩ | ⟨hc2,h⟩
  ·obtain ⟨p3,hp3,h⟩ := bindo h
   obtain ⟨p4,hp4,h⟩ := bindo h
   refine q_cond_t rfl (.tmp rfl) (decide_eq_true hc2) (q_skipc rfl (qQ rfl (q_block rfl (qQ rfl (qR rfl rfl (qS 10 rfl (oX (s := y6) · tu95 sz96 rfl rfl hp3) (qS 11 rfl (oL · sc96 rfl rfl (ldP_out hp4)) (qS 5 rfl (oA · rfl) (rE ?_)))))))))
   try dsimp only [w0,w1,w2,w3]
   refine x_start (cls := [3,0,2,2,2,2]) (rk := [0,1,2,3,4,5]) rfl (by kernel_rfl) ?_
   obtain ⟨p5,hp5,h⟩ := bindo h
   obtain ⟨p6,hp6,h⟩ := bindo h
   refine x_late (r_op (dst := some 12) (ts := [3]) rfl (by intro _ _ h; cases h) (by kernel_rfl) (fun _ ho => ok_load_s ho sc144 (.tmp rfl) hp5 (ldSl_out hp6))) rfl trivial ?_
   refine xf 13 [5] rfl (oM · rfl) ?_
   obtain ⟨p7,hp7,h⟩ := bindo h
   obtain ⟨p8,hp8,h⟩ := bindo h
   obtain ⟨hg9,h⟩ := gd h
   refine x_goE (e_call (dst := some 14) (ts := [13]) rfl (by kernel_rfl) (.func _) (.cons (.tmp rfl) Evs.nil) (HInv.static set_Set_int_List.at_ set_Set_int_List.body (set_Set_int_List.snd  hp7))) rfl ⟨.inr (l_op (dst := some 12) (ts := [3]) rfl (by intro _ _ h; cases h) (by kernel_rfl) (fun _ ho => ok_load_s ho sc144 (.tmp rfl) hp5 (ldSl_out (hp8.trans (congrArg some hg9))))),trivial⟩ ?_
   obtain ⟨p10,hp10,h⟩ := leto h
   obtain ⟨p11,hp11,h⟩ := bindo h
   obtain ⟨hg12,h⟩ := gd h
   refine ze 15 [14] rfl (ok_buildSlice_s (xs := [(.tmp 14)]) el144 · rfl rfl (by decide) (.cons (.tmp rfl) Evs.nil) rfl rfl hp10) ⟨.inr (l_op (dst := some 12) (ts := [3]) rfl (by intro _ _ h; cases h) (by kernel_rfl) (fun _ ho => ok_load_s ho sc144 (.tmp rfl) hp5 (ldSl_out (hp11.trans (congrArg some hg12))))),trivial⟩ ?_
   try dsimp only [w0,w1,w2,w3]
   obtain ⟨p13,hp13,h⟩ := bindo h
   obtain ⟨p14,hp14,h⟩ := bindo h
   refine ze 16 [12,15] rfl (ok_append (s := p6) (s1 := (p10.1)) el144 · rfl rfl ⟨_,tu144⟩ (.tmp rfl) (.tmp rfl) hp13 hp14) ⟨.inl (by kernel_rfl),trivial⟩ ?_
   obtain ⟨p15,hp15,h⟩ := bindo h
   obtain ⟨p16,hp16,h⟩ := bindo h
   refine x_goE (e_op (dst := none) (ts := [3,16]) rfl (by intro _ _ h; cases h) (by kernel_rfl) (fun _ ho => ok_store_s (v := (Sl.hv (p14.1))) ho sz144 (.tmp rfl) hp15 (.tmp rfl) rfl hp16)) rfl ⟨.inl (by kernel_rfl),trivial⟩ ?_
   refine x_rest rfl ?_
   refine rE ?_
   try dsimp only [w0,w1,w2,w3]
   refine hr_inBlock (qR rfl rfl (qS 17 rfl (oC · rfl rfl) (qS 8 rfl (oM · rfl) (rE ?_))))
   try dsimp only [w0,w1,w2,w3]
   exact ih h
  ·refine q_cond_f rfl (.tmp rfl) (decide_eq_false hc2) (q_exit rfl rfl (qQ rfl (qR rfl rfl (qS 18 rfl (ok_makeFunc · Evs.nil (.cons (.tmp rfl) Evs.nil)) (qS 2 rfl (oA · rfl) (rE ?_))))))
   cases h
   exact q_ret rfl at_.at_ rfl (res1 rfl rfl) ⟨rfl,rfl⟩
def f (k : Nat) (x0 : Sl) (S : HS) : Option ((HV) × HS) :=
 (letv (HS.new S (.cells 1 [[(Sl.hv Sl.nil)]] true)) fun p1 =>
 L0 k k (some (HA.cell0 S.next)) x0 (Sl.len x0 : Int) 0 p1)
theorem snd {x0 : Sl} {S : HS}  {p : (HV) × HS} (h : f k x0 S = some p) : HCall Tryz.prog base W0 β0 57 [(Sl.hv x0)] S (fun v S1 => v = p.1 ∧ S1 = p.2) := by
 unfold f at h
 refine HCall.of_run at_.at_ body ?_
 show HR base W0 β0 57 none [.code c0] ⟨[(Sl.hv x0),τ,τ,τ,τ,τ,τ,τ,τ,τ,τ,τ,τ,τ,τ,τ,τ,τ,τ],[]⟩ S _
 refine qQ rfl (qR rfl rfl (qS 2 rfl (ok_assign · (.const fun _ => .nilFn)) (rE ?_)))
 try dsimp only [w0,w1,w2,w3]
 obtain ⟨p1,hp1,h⟩ := leto h
 refine qQ rfl (qR rfl rfl (qS 3 rfl (ok_alloc_e · zi144 zr144 (by decide) rfl hp1) (rE ?_)))
 try dsimp only [w0,w1,w2,w3]
 refine qQ rfl (qQ rfl (qR rfl rfl (qS 6 rfl (oM · rfl) (qS 7 rfl (ok_len_sl (q := Sl.a x0) (n := Sl.len x0) (z := Sl.cap x0) · rfl tu95 (.tmp rfl)) (qS 8 rfl (ok_move · (.int _ _)) (rE ?_))))))
 try dsimp only [w0,w1,w2,w3]
 refine q_block rfl (q_loop rfl ?_)
 try dsimp only [w0,w1,w2,w3]
 exact L0_snd  h
end set_Union_int
namespace set_Without_int_1
theorem at_ : FnAt Tryz.prog 86 Tryz.f86 := ⟨Tryz.func86,by kernel_rfl⟩
def d0 := (Tryz.f86.body).getD .skip
def r1 := kR (kA d0)
def r4 := kR (kA (kA (kB d0)))
def r9 := kR (kA (kB (kB d0)))
def r12 := kR (kA (kA (kB (kB (kB d0)))))
def r15 := kR (kA (kA (kB (kA (kB (kB (kB d0)))))))
def c16 : Code := .cond (.tmp 17) .ret .skip
def c13 : Code := .block 1 (.seq (.region 4 r15 false) c16)
def c12 : Code := .region 3 r12 false
def c0 : Code := .seq (.region 0 r1 false) (.seq (.seq (.region 1 r4 false) (.cond (.tmp 6) .ret .skip)) (.seq (.region 2 r9 false) (.block 0 (.rangeFunc (.tmp 7) #[8] c12 c13))))
theorem body : Tryz.f86.body = some c0 := by kernel_rfl
def J1 (D : Dp) (H : Hd) (l : Nat) (y17 : Bool) (S : HS) : Option (HV × HS) :=
 (if y17 = true then
 (HS.endr S l (some .ret)) else
 (HS.endr S l none))
theorem J1_snd {l : Nat} (hD : DS base W0 D) (hH : HT base W0 β0 H)  {y17 : Bool} {S : HS} {p : HV × HS} (h : J1 D H l y17 S = some p) : HR base W0 β0 86 (some l) [.code c16,.inBlock 1] ⟨[Ga,Gb,Gc,Gd,Ge,Gf,Gg,Gh,Gi,Gj,Gk,Gl,Gm,Gn,Go,Gp,Gq,(.bool y17)],[]⟩ S (fun v S1 => v = p.1 ∧ S1 = p.2) := by
 unfold J1 at h
 rcases ifc h with ⟨hc18,h⟩ | ⟨hc18,h⟩
 ·refine q_cond_t rfl (.tmp rfl) hc18 ?_
  exact q_round_ret rfl h ⟨rfl,rfl⟩
 ·refine q_cond_f rfl (.tmp rfl) (bfalse hc18) (q_skipc rfl (hr_inBlock ?_))
  exact q_round_end h ⟨rfl,rfl⟩
def J0 (D : Dp) (H : Hd) (l : Nat) (y2 : HP) (y3 : HP) (y8 : Int) (S : HS) : Option (HV × HS) :=
 ((S.begin_ l).bind fun p10 =>
 (y2.bind fun p11 =>
 ((p10.ldI .i64 p11).bind fun p12 =>
 (if (!decide (y8 = p12)) = true then
 (y3.bind fun p14 =>
 ((p10.ldF p14).bind fun p15 =>
 ((D H p15 [(.int .i64 y8)] p10).bind fun p16 =>
 ((dB p16.1).bind fun p17 =>
 J1 D H l (!p17) p16.2)))) else
 J1 D H l false p10))))
theorem J0_snd {l : Nat} (hD : DS base W0 D) (hH : HT base W0 β0 H)  {y2 : HP} {y3 : HP} {y8 : Int} {S : HS} {p : HV × HS} (h : J0 D H l y2 y3 y8 S = some p) : HR base W0 β0 86 (some l) [.code c12,.beginRound,.code c13] ⟨[Ga,Gb,(.ptr y2),(.ptr y3),Ge,Gf,Gg,Gh,(.int .i64 y8),Gj,Gk,Gl,Gm,Gn,Go,Gp,Gq,Gr],[]⟩ S (fun v S1 => v = p.1 ∧ S1 = p.2) := by
 unfold J0 at h
 refine qR rfl rfl (qS 4 rfl (oA · rfl) (rE ?_))
 try dsimp only [w0,w1,w2,w3]
 obtain ⟨p10,hp10,h⟩ := bindo h
 refine q_begin hp10 ?_
 obtain ⟨p11,hp11,h⟩ := bindo h
 obtain ⟨p12,hp12,h⟩ := bindo h
 refine q_block rfl (qQ rfl (qR rfl rfl (qS 9 rfl (oM · rfl) (qS 10 rfl (oL · sc3 rfl hp11 (ldI_out hp12)) (qS 11 rfl (oB · rfl rfl rfl) (qS 12 rfl (oM · rfl) ?_))))))
 try dsimp only [w0,w1,w2,w3]
 rcases ifc h with ⟨hc13,h⟩ | ⟨hc13,h⟩
 ·obtain ⟨p14,hp14,h⟩ := bindo h
  obtain ⟨p15,hp15,h⟩ := bindo h
  obtain ⟨p16,hp16,h⟩ := bindo h
  obtain ⟨p17,hp17,h⟩ := bindo h
  refine qG 12 13 rfl hc13 (oL · sc85 rfl hp14 (ldF_out hp15)) (qG 12 14 rfl hc13 (oM · rfl) (q_call_g (t := 12) (dst := some 15) rfl rfl rfl hc13 (.tmp rfl) (.cons (.tmp rfl) Evs.nil) (hD _ _ hH _ _ _ _ _ hp16) ?_))
  rintro _ _ ⟨rfl,rfl⟩
  rw [dB_out hp17]
  refine qG 12 16 rfl hc13 (ok_not · (.tmp rfl)) ?_
  try dsimp only [w0,w1,w2,w3]
  refine qS 17 rfl (ok_pick_tt · (.tmp rfl) hc13 (.tmp rfl)) (rE ?_)
  try dsimp only [w0,w1,w2,w3]
  exact J1_snd hD hH h
 ·refine q_skip (dst := some 13) (t := 12) rfl rfl rfl (bfalse hc13) (q_skip (dst := some 14) (t := 12) rfl rfl rfl (bfalse hc13) (q_skip (dst := some 15) (t := 12) rfl rfl rfl (bfalse hc13) (q_skip (dst := some 16) (t := 12) rfl rfl rfl (bfalse hc13) ?_)))
  try dsimp only [w0,w1,w2,w3]
  refine qS 17 rfl (ok_pick_ff · (.tmp rfl) (bfalse hc13) (.bool _)) (rE ?_)
  try dsimp only [w0,w1,w2,w3]
  exact J1_snd hD hH h
def f (D : Dp) (H : Hd) (x0 : HV) (x1 : HP) (x2 : HP) (S : HS) : Option ((Unit) × HS) :=
 ((dF x0).bind fun p1 =>
 (letv (HS.new S (.cells 1 [[p1]] true)) fun p2 =>
 (x1.bind fun p3 =>
 ((p2.ldF p3).bind fun p4 =>
 ((HV.isNilFn p4).bind fun p5 =>
 (if (p5) = true then
 ((p2.leave []).bind fun p7 =>
 some ((),p7)) else
 (x1.bind fun p8 =>
 ((p2.ldF p8).bind fun p9 =>
 ((D (Hd.set H (HS.next p2 + 1) fun vs T =>
 ((T.lp (HS.next p2 + 1)).bind fun u21 =>
 ((args1 vs).bind fun ar19 =>
 ((dI .i64 ar19).bind fun p20 =>
 (J0 D H (HS.next p2 + 1) x2 (some (HA.cell0 S.next)) p20 T))))) p9 [.fn (.yield (HS.next p2 + 1)) [] []] (HS.new (HS.new p2 .defer) (.loop .ready none))).bind fun p22 =>
 ((p22.2.finish (HS.next p2 + 1)).bind fun p23 =>
 ((pcode p23.1).bind fun n24 =>
 (if n24 = 0 then
 ((p23.2.leave (HS.next p2 :: [])).bind fun p26 =>
 some ((),p26)) else
 (if n24 = 1 then
 ((p23.2.leave (HS.next p2 :: [])).bind fun p28 =>
 some ((),p28)) else
 none)))))))))))))
theorem snd {x0 : HV} {x1 : HP} {x2 : HP} {S : HS} (hD : DS base W0 D) (hH : HT base W0 β0 H)  {p : (Unit) × HS} (h : f D H x0 x1 x2 S = some p) : HCall Tryz.prog base W0 β0 86 [x0,(.ptr x1),(.ptr x2)] S (fun v S1 => v = (.tup []) ∧ S1 = p.2) := by
 unfold f at h
 refine HCall.of_run at_.at_ body ?_
 show HR base W0 β0 86 none [.code c0] ⟨[x0,(.ptr x1),(.ptr x2),τ,τ,τ,τ,τ,τ,τ,τ,τ,τ,τ,τ,τ,τ,τ],[]⟩ S _
 obtain ⟨p1,hp1,h⟩ := bindo h
 obtain ⟨p2,hp2,h⟩ := leto h
 refine qQ rfl (qR rfl rfl (qS 3 rfl (ok_box_fn · (.tmp rfl) hp1 hp2) (rE ?_)))
 try dsimp only [w0,w1,w2,w3]
 obtain ⟨p3,hp3,h⟩ := bindo h
 obtain ⟨p4,hp4,h⟩ := bindo h
 obtain ⟨p5,hp5,h⟩ := bindo h
 refine qQ rfl (qQ rfl (qR rfl rfl (qS 5 rfl (oL · sc46 rfl hp3 (ldF_out hp4)) (qS 6 rfl (ok_nil_fn · tu46 (.tmp rfl) hp5 (.inl ⟨rfl,rfl⟩)) (rE ?_)))))
 try dsimp only [w0,w1,w2,w3]
 rcases ifc h with ⟨hc6,h⟩ | ⟨hc6,h⟩
 ·obtain ⟨p7,hp7,h⟩ := bindo h
  cases h
  exact q_cond_t rfl (.tmp rfl) hc6 (q_ret rfl at_.at_ hp7 (res0 rfl) ⟨rfl,rfl⟩)
 ·obtain ⟨p8,hp8,h⟩ := bindo h
  obtain ⟨p9,hp9,h⟩ := bindo h
  refine q_cond_f rfl (.tmp rfl) (bfalse hc6) (q_skipc rfl (qQ rfl (qR rfl rfl (qS 7 rfl (oL · sc46 rfl hp8 (ldF_out hp9)) (rE ?_)))))
  try dsimp only [w0,w1,w2,w3]
  obtain ⟨p22,hp22,h⟩ := bindo h
  obtain ⟨p23,hp23,h⟩ := bindo h
  obtain ⟨n24,hn24,h⟩ := bindo h
  refine q_block rfl ?_
  refine q_range (D := D) (H := H) rfl (.tmp rfl) hD hH hp22 hp23 ?_ ?_
  ·intro β1 hle hLA vs T u T' hr
   obtain ⟨u21,hu21,hr⟩ := bindo hr
   obtain ⟨ar19,har19,hr⟩ := bindo hr
   obtain ⟨p20,hp20,hr⟩ := bindo hr
   rw [args1_out har19]
   refine q_yield2 hLA hu21 rfl rfl ?_
   rw [dI_out hp20]
   simp only [HAct.params,List.set_cons_zero,List.set_cons_succ]
   exact J0_snd hD (hH.up hle) hr
  ·rcases ifc h with ⟨hc25,h⟩ | ⟨hc25,h⟩
   ·rw [pcode0 hn24 hc25]
    simp only [jumped_none,jumped_some]
    obtain ⟨p26,hp26,h⟩ := bindo h
    cases h
    exact hr_inBlock (q_end at_.at_ hp26 (res0 rfl) ⟨rfl,rfl⟩)
   ·rcases ifc h with ⟨hc27,h⟩ | ⟨hc27,h⟩
    ·rw [pcode1 hn24 hc27]
     simp only [jumped_none,jumped_some]
     obtain ⟨p28,hp28,h⟩ := bindo h
     cases h
     exact q_ret rfl at_.at_ hp28 (res0 rfl) ⟨rfl,rfl⟩
    ·cases h
end set_Without_int_1
namespace set_Without_int
theorem at_ : FnAt Tryz.prog 56 Tryz.f56 := ⟨Tryz.func56,by kernel_rfl⟩
def d0 := (Tryz.f56.body).getD .skip
def r1 := kR (kA d0)
def r3 := kR (kA (kB d0))
def c0 : Code := .seq (.region 0 r1 false) (.seq (.region 1 r3 false) .ret)
theorem body : Tryz.f56.body = some c0 := by kernel_rfl
def f (x0 : HV) (x1 : Int) (S : HS) : Option ((HV) × HS) :=
 ((dF x0).bind fun p1 =>
 (letv (HS.new S (.cells 1 [[p1]] true)) fun p2 =>
 (letv (HS.new p2 (.cells 1 [[(.int .i64 x1)]] true)) fun p3 =>
 some ((HV.fn (.func 86) [] [(.ptr (some (HA.cell0 S.next))),(.ptr (some (HA.cell0 p2.next)))]),p3))))
theorem snd {x0 : HV} {x1 : Int} {S : HS}  {p : (HV) × HS} (h : f x0 x1 S = some p) : HCall Tryz.prog base W0 β0 56 [x0,(.int .i64 x1)] S (fun v S1 => v = p.1 ∧ S1 = p.2) := by
 unfold f at h
 refine HCall.of_run at_.at_ body ?_
 show HR base W0 β0 56 none [.code c0] ⟨[x0,(.int .i64 x1),τ,τ,τ,τ],[]⟩ S _
 obtain ⟨p1,hp1,h⟩ := bindo h
 obtain ⟨p2,hp2,h⟩ := leto h
 obtain ⟨p3,hp3,h⟩ := leto h
 refine qQ rfl (qR rfl rfl (qS 2 rfl (ok_box_fn · (.tmp rfl) hp1 hp2) (qS 3 rfl (ok_box_e · (.tmp rfl) (Nat.zero_lt_succ _) rfl hp3) (qS 4 rfl (ok_assign · (.const fun _ => .nilFn)) (rE ?_)))))
 try dsimp only [w0,w1,w2,w3]
 refine qQ rfl (qR rfl rfl (qS 5 rfl (ok_makeFunc · Evs.nil (.cons (.tmp rfl) (.cons (.tmp rfl) Evs.nil))) (qS 4 rfl (oA · rfl) (rE ?_))))
 cases h
 exact q_ret rfl at_.at_ rfl (res1 rfl rfl) ⟨rfl,rfl⟩
end set_Without_int
namespace rooms_Rooms_Peers
theorem at_ : FnAt Tryz.prog 15 Tryz.f15 := ⟨Tryz.func15,by kernel_rfl⟩
def d0 := (Tryz.f15.body).getD .skip
def r1 := kR (kA d0)
def r3 := kR (kA (kB d0))
def d5 := kA (kB (kB d0))
def r6 := kR (kA d5)
def r9 := kR (kA (kA (kB d5)))
def d10 := kB (kA (kB d5))
def r12 := kR (kA (kA d10))
def r15 := kR (kA (kA (kB (kA d10))))
def d17 := kA (kB (kA (kB (kA d10))))
def r18 := kR (kA d17)
def r20 := kR (kA (kB d17))
def r21 := kR (kB (kB (kA d10)))
def r23 := kR (kA (kB (kB (kB d0))))
def c19 : Code := .block 3 (.region 7 r20 false)
def c18 : Code := .region 6 r18 false
def c10 : Code := .block 1 (.seq (.region 4 r12 false) (.seq (.seq (.region 5 r15 false) (.block 2 (.rangeFunc (.tmp 15) #[16] c18 c19))) (.region 8 r21 false)))
def c9 : Code := .region 3 r9 false
def c0 : Code := .seq (.region 0 r1 false) (.seq (.region 1 r3 false) (.seq (.seq (.region 2 r6 false) (.block 0 (.rangeFunc (.tmp 11) #[12] c9 c10))) (.seq (.region 9 r23 false) .ret)))
theorem body : Tryz.f15.body = some c0 := by kernel_rfl
def J1 (D : Dp) (H : Hd) (k : Nat) (l : Nat) (y7 : HP) (y16_0 : Int) (y16_1 : Bool) (y16_2 : Bool) (S : HS) : Option (HV × HS) :=
 (letv (HS.new S (.cells 3 [[(.int .i64 0),(.bool false),(.bool false)]] true)) fun p8 =>
 ((p8.sets (HA.cell0 S.next) [(.int .i64 y16_0),(.bool y16_1),(.bool y16_2)]).bind fun p9 =>
 ((p9.begin_ l).bind fun p10 =>
 (y7.bind fun p11 =>
 ((p10.ldP p11).bind fun p12 =>
 ((p10.ldI .i64 (HA.fld (HA.cell0 S.next) 0)).bind fun p13 =>
 (letv (HS.lit p10 [[(.int .i64 p13)]] 1) fun p14 =>
 ((set_Set_int_Add.f k p12 (p14.1) (p14.2)).bind fun p15 =>
 (HS.endr p15.2 l none)))))))))
theorem J1_snd {l : Nat} (hD : DS base W0 D) (hH : HT base W0 β0 H)  {y7 : HP} {y16_0 : Int} {y16_1 : Bool} {y16_2 : Bool} {S : HS} {p : HV × HS} (h : J1 D H k l y7 y16_0 y16_1 y16_2 S = some p) : HR base W0 β0 15 (some l) [.code c18,.beginRound,.code c19] ⟨[Ga,Gb,Gc,Gd,Ge,Gf,Gg,(.ptr y7),Gi,Gj,Gk,Gl,Gm,Gn,Go,Gp,(.agg [(.int .i64 y16_0),(.bool y16_1),(.bool y16_2)]),Gr,Gs,Gt,Gu,Gv,Gw,Gx,Gy,Gz,Ka,Kb,Kc,Kd],[]⟩ S (fun v S1 => v = p.1 ∧ S1 = p.2) := by
 unfold J1 at h
 obtain ⟨p8,hp8,h⟩ := leto h
 obtain ⟨p9,hp9,h⟩ := bindo h
 refine qR rfl rfl (qS 8 rfl (ok_alloc_e · zi62 zr62 (by decide) rfl hp8) (qN rfl (ok_store_s (v := (.agg [(.int .i64 y16_0),(.bool y16_1),(.bool y16_2)])) · sz62 (.tmp rfl) rfl (.tmp rfl) rfl hp9) (rE ?_)))
 try dsimp only [w0,w1,w2,w3]
 obtain ⟨p10,hp10,h⟩ := bindo h
 refine q_begin hp10 ?_
 obtain ⟨p11,hp11,h⟩ := bindo h
 obtain ⟨p12,hp12,h⟩ := bindo h
 obtain ⟨p13,hp13,h⟩ := bindo h
 obtain ⟨p14,hp14,h⟩ := leto h
 refine q_block rfl (qR rfl rfl (qS 17 rfl (oL · sc96 rfl hp11 (ldP_out hp12)) (qS 18 rfl (oF · fi62_0 (by decide) rfl rfl) (qS 19 rfl (oL · sc3 rfl rfl (ldI_out hp13)) (qS 20 rfl (ok_buildSlice_s (xs := [(.tmp 19)]) el42 · rfl rfl (by decide) (.cons (.tmp rfl) Evs.nil) rfl rfl hp14) ?_)))))
 try dsimp only [w0,w1,w2,w3]
 obtain ⟨p15,hp15,h⟩ := bindo h
 refine q_call (dst := some 21) rfl (.func _) (.cons (.tmp rfl) (.cons (.tmp rfl) Evs.nil)) (HInv.static set_Set_int_Add.at_ set_Set_int_Add.body (set_Set_int_Add.snd  hp15)) ?_
 rintro _ _ ⟨rfl,rfl⟩
 refine rE ?_
 try dsimp only [w0,w1,w2,w3]
 refine hr_inBlock ?_
 exact q_round_end h ⟨rfl,rfl⟩
def J0 (D : Dp) (H : Hd) (k : Nat) (l : Nat) (y5 : HP) (y12 : HP) (S : HS) : Option (HV × HS) :=
 ((S.begin_ l).bind fun p3 =>
 ((set_Of_int.f k Sl.nil p3).bind fun p4 =>
 (letv (HS.new p4.2 (.cells 1 [[(.ptr none)]] true)) fun p5 =>
 ((p5.sets (HA.cell0 p4.2.next) [(.ptr p4.1)]).bind fun p6 =>
 ((room_Room_Members.f y12 p6).bind fun p7 =>
 ((p7.2.lp l).bind fun u25 =>
 ((D (Hd.set H (HS.next p7.2) fun vs T =>
 ((T.lp (HS.next p7.2)).bind fun u21 =>
 ((args1 vs).bind fun ar16 =>
 ((dA3 ar16).bind fun p17 =>
 ((dI .i64 p17.1).bind fun p18 =>
 ((dB p17.2.1).bind fun p19 =>
 ((dB p17.2.2).bind fun p20 =>
 (J1 D H k (HS.next p7.2) (some (HA.cell0 p4.2.next)) p18 p19 p20 T)))))))) p7.1 [.fn (.yield (HS.next p7.2)) [] []] (HS.new p7.2 (.loop .ready none))).bind fun p22 =>
 ((p22.2.finish (HS.next p7.2)).bind fun p23 =>
 ((pcode p23.1).bind fun n24 =>
 (if n24 = 0 then
 (y5.bind fun p27 =>
 ((p23.2.ldSl p27).bind fun p28 =>
 ((p23.2.ldP (HA.cell0 p4.2.next)).bind fun p29 =>
 (letv (HS.lit p23.2 [[(.ptr p29)]] 1) fun p30 =>
 ((p30.2.rows (p30.1) 1).bind fun p31 =>
 ((p30.2.app p28 p31 1).bind fun p32 =>
 (y5.bind fun p33 =>
 ((p32.2.sets p33 [(Sl.hv (p32.1))]).bind fun p34 =>
 (HS.endr p34 l none))))))))) else
 none))))))))))
theorem J0_snd {l : Nat} (hD : DS base W0 D) (hH : HT base W0 β0 H)  {y5 : HP} {y12 : HP} {S : HS} {p : HV × HS} (h : J0 D H k l y5 y12 S = some p) : HR base W0 β0 15 (some l) [.code c9,.beginRound,.code c10] ⟨[Ga,Gb,Gc,Gd,Ge,(.ptr y5),Gg,Gh,Gi,Gj,Gk,Gl,(.ptr y12),Gn,Go,Gp,Gq,Gr,Gs,Gt,Gu,Gv,Gw,Gx,Gy,Gz,Ka,Kb,Kc,Kd],[]⟩ S (fun v S1 => v = p.1 ∧ S1 = p.2) := by
 unfold J0 at h
 refine qR rfl rfl (qS 6 rfl (oA · rfl) (rE ?_))
 try dsimp only [w0,w1,w2,w3]
 obtain ⟨p3,hp3,h⟩ := bindo h
 refine q_begin hp3 ?_
 obtain ⟨p4,hp4,h⟩ := bindo h
 refine q_block rfl (qQ rfl (qR rfl rfl (q_call (dst := some 13) rfl (.func _) (.cons (.const fun _ => .slNil none) Evs.nil) (HInv.static set_Of_int.at_ set_Of_int.body (set_Of_int.snd  hp4)) ?_)))
 rintro _ _ ⟨rfl,rfl⟩
 obtain ⟨p5,hp5,h⟩ := leto h
 obtain ⟨p6,hp6,h⟩ := bindo h
 refine qS 7 rfl (ok_alloc_e · zi96 zr96 (by decide) rfl hp5) (qN rfl (ok_store_s (v := (.ptr p4.1)) · sz96 (.tmp rfl) rfl (.tmp rfl) rfl hp6) (rE ?_))
 try dsimp only [w0,w1,w2,w3]
 obtain ⟨p7,hp7,h⟩ := bindo h
 refine qQ rfl (qQ rfl (qR rfl rfl (qS 14 rfl (oM · rfl) (q_call (dst := some 15) rfl (.func _) (.cons (.tmp rfl) Evs.nil) (HInv.static room_Room_Members.at_ room_Room_Members.body (room_Room_Members.snd  hp7)) ?_))))
 rintro _ _ ⟨rfl,rfl⟩
 refine rE ?_
 try dsimp only [w0,w1,w2,w3]
 obtain ⟨u25,hu25,h⟩ := bindo h
 obtain ⟨p22,hp22,h⟩ := bindo h
 obtain ⟨p23,hp23,h⟩ := bindo h
 obtain ⟨n24,hn24,h⟩ := bindo h
 refine q_block rfl ?_
 refine q_range_in hu25 (D := D) (H := H) rfl (.tmp rfl) hD hH hp22 hp23 ?_ ?_
 ·intro β1 hle hLA vs T u T' hr
  obtain ⟨u21,hu21,hr⟩ := bindo hr
  obtain ⟨ar16,har16,hr⟩ := bindo hr
  obtain ⟨p17,hp17,hr⟩ := bindo hr
  obtain ⟨p18,hp18,hr⟩ := bindo hr
  obtain ⟨p19,hp19,hr⟩ := bindo hr
  obtain ⟨p20,hp20,hr⟩ := bindo hr
  rw [args1_out har16]
  refine q_yield2 hLA hu21 rfl rfl ?_
  rw [dA3_out hp17,dI_out hp18,dB_out hp19,dB_out hp20]
  simp only [HAct.params,List.set_cons_zero,List.set_cons_succ]
  exact J1_snd hD (hH.up hle) hr
 ·rcases ifc h with ⟨hc26,h⟩ | ⟨hc26,h⟩
  ·rw [pcode0 hn24 hc26]
   simp only [jumped_none,jumped_some]
   obtain ⟨p27,hp27,h⟩ := bindo h
   obtain ⟨p28,hp28,h⟩ := bindo h
   obtain ⟨p29,hp29,h⟩ := bindo h
   obtain ⟨p30,hp30,h⟩ := leto h
   obtain ⟨p31,hp31,h⟩ := bindo h
   obtain ⟨p32,hp32,h⟩ := bindo h
   refine hr_inBlock (qR rfl rfl (qS 22 rfl (oL · sc95 rfl hp27 (ldSl_out hp28)) (qS 23 rfl (oL · sc96 rfl rfl (ldP_out hp29)) (qS 24 rfl (ok_buildSlice_s (xs := [(.tmp 23)]) el95 · rfl rfl (by decide) (.cons (.tmp rfl) Evs.nil) rfl rfl hp30) (qS 25 rfl (ok_append (s := p28) (s1 := (p30.1)) el95 · rfl rfl ⟨_,tu95⟩ (.tmp rfl) (.tmp rfl) hp31 hp32) ?_)))))
   try dsimp only [w0,w1,w2,w3]
   obtain ⟨p33,hp33,h⟩ := bindo h
   obtain ⟨p34,hp34,h⟩ := bindo h
   refine qN rfl (ok_store_s (v := (Sl.hv (p32.1))) · sz95 (.tmp rfl) hp33 (.tmp rfl) rfl hp34) (rE ?_)
   try dsimp only [w0,w1,w2,w3]
   refine hr_inBlock ?_
   exact q_round_end h ⟨rfl,rfl⟩
  ·cases h
def f (D : Dp) (H : Hd) (k : Nat) (x0 : HP) (x1 : Int) (S : HS) : Option ((HV) × HS) :=
 (letv (HS.new S (.cells 1 [[(Sl.hv Sl.nil)]] true)) fun p1 =>
 ((rooms_Rooms_Of.f D H k x0 x1 p1).bind fun p2 =>
 ((D (Hd.set H (HS.next p2.2 + 1) fun vs T =>
 ((T.lp (HS.next p2.2 + 1)).bind fun u37 =>
 ((args1 vs).bind fun ar35 =>
 ((dP ar35).bind fun p36 =>
 (J0 D H k (HS.next p2.2 + 1) (some (HA.cell0 S.next)) p36 T))))) p2.1 [.fn (.yield (HS.next p2.2 + 1)) [] []] (HS.new (HS.new p2.2 .defer) (.loop .ready none))).bind fun p38 =>
 ((p38.2.finish (HS.next p2.2 + 1)).bind fun p39 =>
 ((pcode p39.1).bind fun n40 =>
 (if n40 = 0 then
 ((p39.2.ldSl (HA.cell0 S.next)).bind fun p42 =>
 ((set_Union_int.f k p42 p39.2).bind fun p43 =>
 ((set_Without_int.f p43.1 x1 p43.2).bind fun p44 =>
 ((p44.2.leave (HS.next p2.2 :: [])).bind fun p45 =>
 some (p44.1,p45))))) else
 none))))))
theorem snd {x0 : HP} {x1 : Int} {S : HS} (hD : DS base W0 D) (hH : HT base W0 β0 H)  {p : (HV) × HS} (h : f D H k x0 x1 S = some p) : HCall Tryz.prog base W0 β0 15 [(.ptr x0),(.int .i64 x1)] S (fun v S1 => v = p.1 ∧ S1 = p.2) := by
 unfold f at h
 refine HCall.of_run at_.at_ body ?_
 show HR base W0 β0 15 none [.code c0] ⟨[(.ptr x0),(.int .i64 x1),τ,τ,τ,τ,τ,τ,τ,τ,τ,τ,τ,τ,τ,τ,τ,τ,τ,τ,τ,τ,τ,τ,τ,τ,τ,τ,τ,τ],[]⟩ S _
 refine qQ rfl (qR rfl rfl (qS 4 rfl (ok_assign · (.const fun _ => .nilFn)) (rE ?_)))
 try dsimp only [w0,w1,w2,w3]
 obtain ⟨p1,hp1,h⟩ := leto h
 refine qQ rfl (qR rfl rfl (qS 5 rfl (ok_alloc_e · zi95 zr95 (by decide) rfl hp1) (rE ?_)))
 try dsimp only [w0,w1,w2,w3]
 obtain ⟨p2,hp2,h⟩ := bindo h
 refine qQ rfl (qQ rfl (qR rfl rfl (qS 9 rfl (oM · rfl) (qS 10 rfl (oM · rfl) (q_call (dst := some 11) rfl (.func _) (.cons (.tmp rfl) (.cons (.tmp rfl) Evs.nil)) (HInv.static rooms_Rooms_Of.at_ rooms_Rooms_Of.body (rooms_Rooms_Of.snd hD hH hp2)) ?_)))))
 rintro _ _ ⟨rfl,rfl⟩
 refine rE ?_
 try dsimp only [w0,w1,w2,w3]
 obtain ⟨p38,hp38,h⟩ := bindo h
 obtain ⟨p39,hp39,h⟩ := bindo h
 obtain ⟨n40,hn40,h⟩ := bindo h
 refine q_block rfl ?_
 refine q_range (D := D) (H := H) rfl (.tmp rfl) hD hH hp38 hp39 ?_ ?_
 ·intro β1 hle hLA vs T u T' hr
  obtain ⟨u37,hu37,hr⟩ := bindo hr
  obtain ⟨ar35,har35,hr⟩ := bindo hr
  obtain ⟨p36,hp36,hr⟩ := bindo hr
  rw [args1_out har35]
  refine q_yield2 hLA hu37 rfl rfl ?_
  rw [dP_out hp36]
  simp only [HAct.params,List.set_cons_zero,List.set_cons_succ]
  exact J0_snd hD (hH.up hle) hr
 ·rcases ifc h with ⟨hc41,h⟩ | ⟨hc41,h⟩
  ·rw [pcode0 hn40 hc41]
   simp only [jumped_none,jumped_some]
   obtain ⟨p42,hp42,h⟩ := bindo h
   obtain ⟨p43,hp43,h⟩ := bindo h
   refine hr_inBlock (qQ rfl (qR rfl rfl (qS 26 rfl (oL · sc95 rfl rfl (ldSl_out hp42)) (q_call (dst := some 27) rfl (.func _) (.cons (.tmp rfl) Evs.nil) (HInv.static set_Union_int.at_ set_Union_int.body (set_Union_int.snd  hp43)) ?_))))
   rintro _ _ ⟨rfl,rfl⟩
   obtain ⟨p44,hp44,h⟩ := bindo h
   refine qS 28 rfl (oM · rfl) (q_call (dst := some 29) rfl (.func _) (.cons (.tmp rfl) (.cons (.tmp rfl) Evs.nil)) (HInv.static set_Without_int.at_ set_Without_int.body (set_Without_int.snd  hp44)) ?_)
   rintro _ _ ⟨rfl,rfl⟩
   try dsimp only [w0,w1,w2,w3]
   refine qS 4 rfl (oA · rfl) (rE ?_)
   try dsimp only [w0,w1,w2,w3]
   obtain ⟨p45,hp45,h⟩ := bindo h
   cases h
   exact q_ret rfl at_.at_ hp45 (res1 rfl rfl) ⟨rfl,rfl⟩
  ·cases h
end rooms_Rooms_Peers
namespace rollcalllaw20_numbers
theorem at_ : FnAt Tryz.prog 14 Tryz.f14 := ⟨Tryz.func14,by kernel_rfl⟩
def d0 := (Tryz.f14.body).getD .skip
def r1 := kR (kA d0)
def r3 := kR (kA (kB d0))
def r6 := kR (kA (kA (kB (kB d0))))
def r9 := kR (kA (kA (kB (kA (kB (kB d0))))))
def d12 := kB (kB (kB d0))
def r14 := kR (kA (kA d12))
def d16 := kA (kB (kA d12))
def r17 := kR (kA d16)
def r21 := kR (kA (kA (kA (kB d16))))
def r24 := kR (kA (kA (kB (kA (kA (kB d16))))))
def r27 := kR (kB (kA (kB d16)))
def r29 := kR (kA (kB d12))
def c18 : Code := .block 1 (.seq (.seq (.region 6 r21 false) (.cond (.tmp 15) (.seq (.region 7 r24 false) .ret) .skip)) (.region 8 r27 false))
def c17 : Code := .region 5 r17 false
def c0 : Code := .seq (.region 0 r1 false) (.seq (.region 1 r3 false) (.seq (.seq (.region 2 r6 false) (.cond (.tmp 9) (.seq (.region 3 r9 false) .ret) .skip)) (.seq (.seq (.region 4 r14 false) (.block 0 (.rangeFunc (.tmp 10) #[11] c17 c18))) (.seq (.region 9 r29 false) .ret))))
theorem body : Tryz.f14.body = some c0 := by kernel_rfl
def J0 (D : Dp) (H : Hd) (l : Nat) (y3 : HP) (y4 : HP) (y5 : HP) (y6 : HP) (y11 : Int) (S : HS) : Option (HV × HS) :=
 ((S.begin_ l).bind fun p12 =>
 (y6.bind fun p13 =>
 ((p12.ldSl p13).bind fun p14 =>
 (y3.bind fun p15 =>
 ((p12.ldI .i64 p15).bind fun p16 =>
 (if (Sl.len p14 : Int) ≥ p16 then
 (y4.bind fun p18 =>
 ((p12.sets p18 [(Sl.hv Sl.nil)]).bind fun p19 =>
 (y5.bind fun p20 =>
 ((p19.sets p20 [(.bool false)]).bind fun p21 =>
 (HS.endr p21 l (some .ret)))))) else
 (y6.bind fun p22 =>
 ((p12.ldSl p22).bind fun p23 =>
 (letv (HS.lit p12 [[(.int .i64 y11)]] 1) fun p24 =>
 ((p24.2.rows (p24.1) 1).bind fun p25 =>
 ((p24.2.app p23 p25 1).bind fun p26 =>
 (y6.bind fun p27 =>
 ((p26.2.sets p27 [(Sl.hv (p26.1))]).bind fun p28 =>
 (HS.endr p28 l none))))))))))))))
theorem J0_snd {l : Nat} (hD : DS base W0 D) (hH : HT base W0 β0 H)  {y3 : HP} {y4 : HP} {y5 : HP} {y6 : HP} {y11 : Int} {S : HS} {p : HV × HS} (h : J0 D H l y3 y4 y5 y6 y11 S = some p) : HR base W0 β0 14 (some l) [.code c17,.beginRound,.code c18] ⟨[Ga,Gb,Gc,(.ptr y3),(.ptr y4),(.ptr y5),(.ptr y6),Gh,Gi,Gj,Gk,(.int .i64 y11),Gm,Gn,Go,Gp,Gq,Gr,Gs,Gt,Gu],[]⟩ S (fun v S1 => v = p.1 ∧ S1 = p.2) := by
 unfold J0 at h
 refine qR rfl rfl (qS 7 rfl (oA · rfl) (rE ?_))
 try dsimp only [w0,w1,w2,w3]
 obtain ⟨p12,hp12,h⟩ := bindo h
 refine q_begin hp12 ?_
 obtain ⟨p13,hp13,h⟩ := bindo h
 obtain ⟨p14,hp14,h⟩ := bindo h
 obtain ⟨p15,hp15,h⟩ := bindo h
 obtain ⟨p16,hp16,h⟩ := bindo h
 refine q_block rfl (qQ rfl (qQ rfl (qR rfl rfl (qS 12 rfl (oL · sc42 rfl hp13 (ldSl_out hp14)) (qS 13 rfl (ok_len_sl (q := Sl.a p14) (n := Sl.len p14) (z := Sl.cap p14) · rfl tu42 (.tmp rfl)) (qS 14 rfl (oL · sc3 rfl hp15 (ldI_out hp16)) (qS 15 rfl (oB · rfl rfl rfl) (rE ?_))))))))
 try dsimp only [w0,w1,w2,w3]
 rcases ifc h with ⟨hc17,h⟩ | ⟨hc17,h⟩
 ·obtain ⟨p18,hp18,h⟩ := bindo h
  obtain ⟨p19,hp19,h⟩ := bindo h
  obtain ⟨p20,hp20,h⟩ := bindo h
  obtain ⟨p21,hp21,h⟩ := bindo h
  refine q_cond_t rfl (.tmp rfl) (decide_eq_true hc17) (qQ rfl (qR rfl rfl (qN rfl (ok_store_s (v := (Sl.hv Sl.nil)) · sz42 (.tmp rfl) hp18 (.const fun _ => .slNil none) rfl hp19) (qN rfl (ok_store_s (v := (.bool false)) · sz4 (.tmp rfl) hp20 (.bool _) rfl hp21) (rE ?_)))))
  try dsimp only [w0,w1,w2,w3]
  exact q_round_ret rfl h ⟨rfl,rfl⟩
 ·obtain ⟨p22,hp22,h⟩ := bindo h
  obtain ⟨p23,hp23,h⟩ := bindo h
  obtain ⟨p24,hp24,h⟩ := leto h
  obtain ⟨p25,hp25,h⟩ := bindo h
  obtain ⟨p26,hp26,h⟩ := bindo h
  refine q_cond_f rfl (.tmp rfl) (decide_eq_false hc17) (q_skipc rfl (qR rfl rfl (qS 16 rfl (oL · sc42 rfl hp22 (ldSl_out hp23)) (qS 17 rfl (oM · rfl) (qS 18 rfl (ok_buildSlice_s (xs := [(.tmp 17)]) el42 · rfl rfl (by decide) (.cons (.tmp rfl) Evs.nil) rfl rfl hp24) (qS 19 rfl (ok_append (s := p23) (s1 := (p24.1)) el42 · rfl rfl ⟨_,tu42⟩ (.tmp rfl) (.tmp rfl) hp25 hp26) ?_))))))
  try dsimp only [w0,w1,w2,w3]
  obtain ⟨p27,hp27,h⟩ := bindo h
  obtain ⟨p28,hp28,h⟩ := bindo h
  refine qN rfl (ok_store_s (v := (Sl.hv (p26.1))) · sz42 (.tmp rfl) hp27 (.tmp rfl) rfl hp28) (rE ?_)
  try dsimp only [w0,w1,w2,w3]
  refine hr_inBlock ?_
  exact q_round_end h ⟨rfl,rfl⟩
def f (D : Dp) (H : Hd) (x0 : HV) (x1 : Int) (S : HS) : Option ((Sl × Bool) × HS) :=
 (letv (HS.new S (.cells 1 [[(.int .i64 x1)]] true)) fun p1 =>
 (letv (HS.new p1 (.cells 1 [[(Sl.hv Sl.nil)]] true)) fun p2 =>
 (letv (HS.new p2 (.cells 1 [[(.bool false)]] true)) fun p3 =>
 (letv (HS.new p3 (.cells 1 [[(Sl.hv Sl.nil)]] true)) fun p4 =>
 ((HV.isNilFn x0).bind fun p5 =>
 (if (p5) = true then
 ((p4.sets (HA.cell0 p1.next) [(Sl.hv Sl.nil)]).bind fun p7 =>
 ((p7.sets (HA.cell0 p2.next) [(.bool false)]).bind fun p8 =>
 ((p8.leave []).bind fun p9 =>
 ((p9.ldSl (HA.cell0 p1.next)).bind fun p10 =>
 ((p9.ldB (HA.cell0 p2.next)).bind fun p11 =>
 some ((p10,p11),p9)))))) else
 ((D (Hd.set H (HS.next p4 + 1) fun vs T =>
 ((T.lp (HS.next p4 + 1)).bind fun u31 =>
 ((args1 vs).bind fun ar29 =>
 ((dI .i64 ar29).bind fun p30 =>
 (J0 D H (HS.next p4 + 1) (some (HA.cell0 S.next)) (some (HA.cell0 p1.next)) (some (HA.cell0 p2.next)) (some (HA.cell0 p3.next)) p30 T))))) x0 [.fn (.yield (HS.next p4 + 1)) [] []] (HS.new (HS.new p4 .defer) (.loop .ready none))).bind fun p32 =>
 ((p32.2.finish (HS.next p4 + 1)).bind fun p33 =>
 ((pcode p33.1).bind fun n34 =>
 (if n34 = 0 then
 ((p33.2.ldSl (HA.cell0 p3.next)).bind fun p36 =>
 ((p33.2.sets (HA.cell0 p1.next) [(Sl.hv p36)]).bind fun p37 =>
 ((p37.sets (HA.cell0 p2.next) [(.bool true)]).bind fun p38 =>
 ((p38.leave (HS.next p4 :: [])).bind fun p39 =>
 ((p39.ldSl (HA.cell0 p1.next)).bind fun p40 =>
 ((p39.ldB (HA.cell0 p2.next)).bind fun p41 =>
 some ((p40,p41),p39))))))) else
 (if n34 = 1 then
 ((p33.2.leave (HS.next p4 :: [])).bind fun p43 =>
 ((p43.ldSl (HA.cell0 p1.next)).bind fun p44 =>
 ((p43.ldB (HA.cell0 p2.next)).bind fun p45 =>
 some ((p44,p45),p43)))) else
 none)))))))))))
theorem snd {x0 : HV} {x1 : Int} {S : HS} (hD : DS base W0 D) (hH : HT base W0 β0 H)  {p : (Sl × Bool) × HS} (h : f D H x0 x1 S = some p) : HCall Tryz.prog base W0 β0 14 [x0,(.int .i64 x1)] S (fun v S1 => v = (.tup [(Sl.hv p.1.1),(.bool p.1.2)]) ∧ S1 = p.2) := by
 unfold f at h
 refine HCall.of_run at_.at_ body ?_
 show HR base W0 β0 14 none [.code c0] ⟨[x0,(.int .i64 x1),τ,τ,τ,τ,τ,τ,τ,τ,τ,τ,τ,τ,τ,τ,τ,τ,τ,τ,τ],[]⟩ S _
 obtain ⟨p1,hp1,h⟩ := leto h
 obtain ⟨p2,hp2,h⟩ := leto h
 obtain ⟨p3,hp3,h⟩ := leto h
 refine qQ rfl (qR rfl rfl (qS 3 rfl (ok_box_e · (.tmp rfl) (Nat.zero_lt_succ _) rfl hp1) (qS 4 rfl (ok_alloc_e · zi42 zr42 (by decide) rfl hp2) (qS 5 rfl (ok_alloc_e · zi4 zr4 (by decide) rfl hp3) (rE ?_)))))
 try dsimp only [w0,w1,w2,w3]
 obtain ⟨p4,hp4,h⟩ := leto h
 refine qQ rfl (qR rfl rfl (qS 6 rfl (ok_alloc_e · zi42 zr42 (by decide) rfl hp4) (rE ?_)))
 try dsimp only [w0,w1,w2,w3]
 obtain ⟨p5,hp5,h⟩ := bindo h
 refine qQ rfl (qQ rfl (qR rfl rfl (qS 8 rfl (oM · rfl) (qS 9 rfl (ok_nil_fn · tu46 (.tmp rfl) hp5 (.inl ⟨rfl,rfl⟩)) (rE ?_)))))
 try dsimp only [w0,w1,w2,w3]
 rcases ifc h with ⟨hc6,h⟩ | ⟨hc6,h⟩
 ·obtain ⟨p7,hp7,h⟩ := bindo h
  obtain ⟨p8,hp8,h⟩ := bindo h
  refine q_cond_t rfl (.tmp rfl) hc6 (qQ rfl (qR rfl rfl (qN rfl (ok_store_s (v := (Sl.hv Sl.nil)) · sz42 (.tmp rfl) rfl (.const fun _ => .slNil none) rfl hp7) (qN rfl (ok_store_s (v := (.bool false)) · sz4 (.tmp rfl) rfl (.bool _) rfl hp8) (rE ?_)))))
  try dsimp only [w0,w1,w2,w3]
  obtain ⟨p9,hp9,h⟩ := bindo h
  obtain ⟨p10,hp10,h⟩ := bindo h
  obtain ⟨p11,hp11,h⟩ := bindo h
  cases h
  exact q_ret rfl at_.at_ hp9 (resL (rs := [.cell 4 42,.cell 5 4]) rfl (.cons (.cell rfl rfl sc42 (ldSl_out hp10)) (.cons (.cell rfl rfl sc4 (ldB_out hp11)) .nil)) (by simp)) ⟨rfl,rfl⟩
 ·refine q_cond_f rfl (.tmp rfl) (bfalse hc6) (q_skipc rfl (qQ rfl (qQ rfl (qR rfl rfl (qS 10 rfl (oM · rfl) (rE ?_))))))
  try dsimp only [w0,w1,w2,w3]
  obtain ⟨p32,hp32,h⟩ := bindo h
  obtain ⟨p33,hp33,h⟩ := bindo h
  obtain ⟨n34,hn34,h⟩ := bindo h
  refine q_block rfl ?_
  refine q_range (D := D) (H := H) rfl (.tmp rfl) hD hH hp32 hp33 ?_ ?_
  ·intro β1 hle hLA vs T u T' hr
   obtain ⟨u31,hu31,hr⟩ := bindo hr
   obtain ⟨ar29,har29,hr⟩ := bindo hr
   obtain ⟨p30,hp30,hr⟩ := bindo hr
   rw [args1_out har29]
   refine q_yield2 hLA hu31 rfl rfl ?_
   rw [dI_out hp30]
   simp only [HAct.params,List.set_cons_zero,List.set_cons_succ]
   exact J0_snd hD (hH.up hle) hr
  ·rcases ifc h with ⟨hc35,h⟩ | ⟨hc35,h⟩
   ·rw [pcode0 hn34 hc35]
    simp only [jumped_none,jumped_some]
    obtain ⟨p36,hp36,h⟩ := bindo h
    obtain ⟨p37,hp37,h⟩ := bindo h
    obtain ⟨p38,hp38,h⟩ := bindo h
    refine hr_inBlock (qQ rfl (qR rfl rfl (qS 20 rfl (oL · sc42 rfl rfl (ldSl_out hp36)) (qN rfl (ok_store_s (v := (Sl.hv p36)) · sz42 (.tmp rfl) rfl (.tmp rfl) rfl hp37) (qN rfl (ok_store_s (v := (.bool true)) · sz4 (.tmp rfl) rfl (.bool _) rfl hp38) (rE ?_))))))
    try dsimp only [w0,w1,w2,w3]
    obtain ⟨p39,hp39,h⟩ := bindo h
    obtain ⟨p40,hp40,h⟩ := bindo h
    obtain ⟨p41,hp41,h⟩ := bindo h
    cases h
    exact q_ret rfl at_.at_ hp39 (resL (rs := [.cell 4 42,.cell 5 4]) rfl (.cons (.cell rfl rfl sc42 (ldSl_out hp40)) (.cons (.cell rfl rfl sc4 (ldB_out hp41)) .nil)) (by simp)) ⟨rfl,rfl⟩
   ·rcases ifc h with ⟨hc42,h⟩ | ⟨hc42,h⟩
    ·rw [pcode1 hn34 hc42]
     simp only [jumped_none,jumped_some]
     obtain ⟨p43,hp43,h⟩ := bindo h
     obtain ⟨p44,hp44,h⟩ := bindo h
     obtain ⟨p45,hp45,h⟩ := bindo h
     cases h
     exact q_ret rfl at_.at_ hp43 (resL (rs := [.cell 4 42,.cell 5 4]) rfl (.cons (.cell rfl rfl sc42 (ldSl_out hp44)) (.cons (.cell rfl rfl sc4 (ldB_out hp45)) .nil)) (by simp)) ⟨rfl,rfl⟩
    ·cases h
end rollcalllaw20_numbers
namespace rollcallref10_Same
theorem at_ : FnAt Tryz.prog 16 Tryz.f16 := ⟨Tryz.func16,by kernel_rfl⟩
def d0 := (Tryz.f16.body).getD .skip
def r1 := kR (kA d0)
def r4 := kR (kA (kA (kB d0)))
def r7 := kR (kA (kA (kB (kA (kB d0)))))
def d11 := kA (kB (kB d0))
def r12 := kR (kA d11)
def d15 := kA (kA (kB d11))
def r17 := kR (kA (kA d15))
def r24 := kR (kA (kA (kA (kB d15))))
def r27 := kR (kA (kA (kB (kA (kA (kB d15))))))
def r30 := kR (kB (kB d15))
def r32 := kR (kA (kB (kB (kB d0))))
def c31 : Code := .seq (.region 8 r32 false) .ret
def c15 : Code := .seq (.seq (.region 4 r17 false) (.cond (.tmp 14) .skip (.exit 0))) (.seq (.block 1 (.seq (.region 6 r24 true) (.cond (.tmp 25) (.seq (.region 7 r27 false) .ret) .skip))) (.region 5 r30 false))
def c0 : Code := .seq (.region 0 r1 false) (.seq (.seq (.region 1 r4 false) (.cond (.tmp 10) (.seq (.region 2 r7 false) .ret) .skip)) (.seq (.seq (.region 3 r12 false) (.block 0 (.loop c15))) c31))
theorem body : Tryz.f16.body = some c0 := by kernel_rfl
def L0 (k : Nat) : Nat → Sl → Sl → Int → HS → Option ((Bool) × HS)
 | 0,_,_,_,_ => none
 | n + 1,y0,y1,y5,S =>
  (if y5 < (Sl.len y0 : Int) then
  ((S.idx y0 y5 1).bind fun p3 =>
  ((S.ldI .i64 p3).bind fun p4 =>
  ((S.idx y1 y5 1).bind fun p5 =>
  ((S.ldI .i64 p5).bind fun p6 =>
  (if (!decide (p4 = p6)) = true then
  some (false,S) else
  (L0 k n) y0 y1 (w64 (y5 + 1)) S))))) else
  some (true,S))
theorem L0_snd  : ∀ {n : Nat} ⦃y0 : Sl⦄ ⦃y1 : Sl⦄ ⦃y5 : Int⦄ ⦃S : HS⦄ ⦃p : (Bool) × HS⦄ ⦃Gc Gd Ge Gg Gh Gi Gj Gk Gl Gm Gn Go Gp Gq Gr Gs Gt Gu Gv Gw Gx Gy Gz : HV⦄,L0 k n y0 y1 y5 S = some p → HR base W0 β0 16 none [.inLoop c15,.inBlock 0,.code c31] ⟨[(Sl.hv y0),(Sl.hv y1),Gc,Gd,Ge,(.int .i64 y5),Gg,Gh,Gi,Gj,Gk,Gl,Gm,Gn,Go,Gp,Gq,Gr,Gs,Gt,Gu,Gv,Gw,Gx,Gy,Gz],[]⟩ S (fun v S1 => v = (.bool p.1) ∧ S1 = p.2) := by
 intro n
 induction n with
 | zero => intro _ _ _ _ _ _ _ _ _ _ _ _ _ _ _ _ _ _ _ _ _ _ _ _ _ _ _ _ h; cases h
 | succ n ih =>
  intro y0 y1 y5 S p Gc Gd Ge Gg Gh Gi Gj Gk Gl Gm Gn Go Gp Gq Gr Gs Gt Gu Gv Gw Gx Gy Gz h
  simp only [L0] at h
  refine hr_inLoop (qQ rfl (qQ rfl (qR rfl rfl (qS 11 rfl (oM · rfl) (qS 12 rfl (oM · rfl) (qS 13 rfl (ok_len_sl (q := Sl.a y0) (n := Sl.len y0) (z := Sl.cap y0) · rfl tu42 (.tmp rfl)) (qS 14 rfl (oB · rfl rfl rfl) (rE ?_))))))))
  try dsimp only [w0,w1,w2,w3]
  rcases ifc h with ⟨hc2,h⟩ | ⟨hc2,h⟩
  ·refine q_cond_t rfl (.tmp rfl) (decide_eq_true hc2) (q_skipc rfl (qQ rfl (q_block rfl (qQ rfl ?_))))
   refine x_start (cls := [0,0,1,1,0,0,1,1,0]) (rk := [0,1,2,3,4,5,6,7,8]) rfl (by kernel_rfl) ?_
   refine yf 17 [0] rfl (oM · rfl) ?_
   refine yf 18 [5] rfl (oM · rfl) ?_
   obtain ⟨p3,hp3,h⟩ := bindo h
   refine yr 19 [17,18] rfl (oX (s := y0) · tu42 sz3 rfl rfl hp3) ?_
   obtain ⟨p4,hp4,h⟩ := bindo h
   refine yr 20 [19] rfl (oL · sc3 rfl rfl (ldI_out hp4)) ?_
   try dsimp only [w0,w1,w2,w3]
   refine yf 21 [1] rfl (oM · rfl) ?_
   refine yf 22 [5] rfl (oM · rfl) ?_
   obtain ⟨p5,hp5,h⟩ := bindo h
   refine yr 23 [21,22] rfl (oX (s := y1) · tu42 sz3 rfl rfl hp5) ?_
   obtain ⟨p6,hp6,h⟩ := bindo h
   refine yr 24 [23] rfl (oL · sc3 rfl rfl (ldI_out hp6)) ?_
   try dsimp only [w0,w1,w2,w3]
   refine yf 25 [20,24] rfl (oB · rfl rfl rfl) ?_
   refine x_rest rfl ?_
   refine rE ?_
   try dsimp only [w0,w1,w2,w3]
   rcases ifc h with ⟨hc7,h⟩ | ⟨hc7,h⟩
   ·refine q_cond_t rfl (.tmp rfl) hc7 (qQ rfl (qR rfl rfl (qS 4 rfl (ok_assign · (.bool _)) (rE ?_))))
    cases h
    exact q_ret rfl at_.at_ rfl (res1 rfl rfl) ⟨rfl,rfl⟩
   ·refine q_cond_f rfl (.tmp rfl) (bfalse hc7) (q_skipc rfl (hr_inBlock (qR rfl rfl (qS 15 rfl (oM · rfl) (qS 16 rfl (oC · rfl rfl) (qS 5 rfl (oA · rfl) (rE ?_)))))))
    try dsimp only [w0,w1,w2,w3]
    exact ih h
  ·refine q_cond_f rfl (.tmp rfl) (decide_eq_false hc2) (q_exit rfl rfl (qQ rfl (qR rfl rfl (qS 4 rfl (ok_assign · (.bool _)) (rE ?_)))))
   cases h
   exact q_ret rfl at_.at_ rfl (res1 rfl rfl) ⟨rfl,rfl⟩
def f (k : Nat) (x0 : Sl) (x1 : Sl) (S : HS) : Option ((Bool) × HS) :=
 (if (!decide ((Sl.len x0 : Int) = (Sl.len x1 : Int))) = true then
 some (false,S) else
 L0 k k x0 x1 0 S)
theorem snd {x0 : Sl} {x1 : Sl} {S : HS}  {p : (Bool) × HS} (h : f k x0 x1 S = some p) : HCall Tryz.prog base W0 β0 16 [(Sl.hv x0),(Sl.hv x1)] S (fun v S1 => v = (.bool p.1) ∧ S1 = p.2) := by
 unfold f at h
 refine HCall.of_run at_.at_ body ?_
 show HR base W0 β0 16 none [.code c0] ⟨[(Sl.hv x0),(Sl.hv x1),τ,τ,τ,τ,τ,τ,τ,τ,τ,τ,τ,τ,τ,τ,τ,τ,τ,τ,τ,τ,τ,τ,τ,τ],[]⟩ S _
 refine qQ rfl (qR rfl rfl (qS 4 rfl (ok_assign · (.bool _)) (rE ?_)))
 try dsimp only [w0,w1,w2,w3]
 refine qQ rfl (qQ rfl (qR rfl rfl (qS 6 rfl (oM · rfl) (qS 7 rfl (ok_len_sl (q := Sl.a x0) (n := Sl.len x0) (z := Sl.cap x0) · rfl tu42 (.tmp rfl)) (qS 8 rfl (oM · rfl) (qS 9 rfl (ok_len_sl (q := Sl.a x1) (n := Sl.len x1) (z := Sl.cap x1) · rfl tu42 (.tmp rfl)) ?_))))))
 try dsimp only [w0,w1,w2,w3]
 refine qS 10 rfl (oB · rfl rfl rfl) (rE ?_)
 try dsimp only [w0,w1,w2,w3]
 rcases ifc h with ⟨hc1,h⟩ | ⟨hc1,h⟩
 ·refine q_cond_t rfl (.tmp rfl) hc1 (qQ rfl (qR rfl rfl (qS 4 rfl (ok_assign · (.bool _)) (rE ?_))))
  cases h
  exact q_ret rfl at_.at_ rfl (res1 rfl rfl) ⟨rfl,rfl⟩
 ·refine q_cond_f rfl (.tmp rfl) (bfalse hc1) (q_skipc rfl (qQ rfl (qQ rfl (qR rfl rfl (qS 5 rfl (ok_assign · (.int _ _)) (rE ?_))))))
  try dsimp only [w0,w1,w2,w3]
  refine q_block rfl (q_loop rfl ?_)
  try dsimp only [w0,w1,w2,w3]
  exact L0_snd  h
end rollcallref10_Same
namespace rooms_Rooms_Len
theorem at_ : FnAt Tryz.prog 27 Tryz.f27 := ⟨Tryz.func27,by kernel_rfl⟩
def d0 := (Tryz.f27.body).getD .skip
def r1 := kR (kA d0)
def r4 := kR (kA (kA (kB d0)))
def r7 := kR (kA (kA (kB (kA (kB d0)))))
def r11 := kR (kA (kB (kB d0)))
def c0 : Code := .seq (.region 0 r1 false) (.seq (.seq (.region 1 r4 false) (.cond (.tmp 4) (.seq (.region 2 r7 false) .ret) .skip)) (.seq (.region 3 r11 false) .ret))
theorem body : Tryz.f27.body = some c0 := by kernel_rfl
def f (x0 : HP) (S : HS) : Option ((Int) × HS) :=
 (if (Option.isNone x0) = true then
 some (0,S) else
 (x0.bind fun p2 =>
 ((S.ldP (HA.fld p2 15)).bind fun p3 =>
 ((book_Book_room_Room_Len.f p3 S).bind fun p4 =>
 some (p4.1,p4.2)))))
theorem snd {x0 : HP} {S : HS}  {p : (Int) × HS} (h : f x0 S = some p) : HCall Tryz.prog base W0 β0 27 [(.ptr x0)] S (fun v S1 => v = (.int .i64 p.1) ∧ S1 = p.2) := by
 unfold f at h
 refine HCall.of_run at_.at_ body ?_
 show HR base W0 β0 27 none [.code c0] ⟨[(.ptr x0),τ,τ,τ,τ,τ,τ,τ,τ,τ],[]⟩ S _
 refine qQ rfl (qR rfl rfl (qS 2 rfl (ok_assign · (.int _ _)) (rE ?_)))
 try dsimp only [w0,w1,w2,w3]
 refine qQ rfl (qQ rfl (qR rfl rfl (qS 3 rfl (oM · rfl) (qS 4 rfl (ok_nil_ptr · tu25 (.tmp rfl) (.inl ⟨rfl,rfl⟩)) (rE ?_)))))
 try dsimp only [w0,w1,w2,w3]
 rcases ifc h with ⟨hc1,h⟩ | ⟨hc1,h⟩
 ·refine q_cond_t rfl (.tmp rfl) hc1 (qQ rfl (qR rfl rfl (qS 2 rfl (ok_assign · (.int _ _)) (rE ?_))))
  cases h
  exact q_ret rfl at_.at_ rfl (res1 rfl rfl) ⟨rfl,rfl⟩
 ·obtain ⟨p2,hp2,h⟩ := bindo h
  obtain ⟨p3,hp3,h⟩ := bindo h
  refine q_cond_f rfl (.tmp rfl) (bfalse hc1) (q_skipc rfl (qQ rfl (qR rfl rfl (qS 5 rfl (oM · rfl) (qS 6 rfl (oN · rfl hp2) (qS 7 rfl (oF · fi83_1 (by decide) rfl rfl) (qS 8 rfl (oL · sc75 rfl rfl (ldP_out hp3)) ?_)))))))
  try dsimp only [w0,w1,w2,w3]
  obtain ⟨p4,hp4,h⟩ := bindo h
  refine q_call (dst := some 9) rfl (.func _) (.cons (.tmp rfl) Evs.nil) (HInv.static book_Book_room_Room_Len.at_ book_Book_room_Room_Len.body (book_Book_room_Room_Len.snd  hp4)) ?_
  rintro _ _ ⟨rfl,rfl⟩
  refine qS 2 rfl (oA · rfl) (rE ?_)
  cases h
  exact q_ret rfl at_.at_ rfl (res1 rfl rfl) ⟨rfl,rfl⟩
end rooms_Rooms_Len
namespace rollcalllaw20_awake
theorem at_ : FnAt Tryz.prog 7 Tryz.f7 := ⟨Tryz.func7,by kernel_rfl⟩
def d0 := (Tryz.f7.body).getD .skip
def r1 := kR (kA d0)
def r3 := kR (kA (kB d0))
def r5 := kR (kA (kB (kB d0)))
def d6 := kB (kB (kB d0))
def r7 := kR (kA d6)
def r9 := kR (kA (kB d6))
def r11 := kR (kA (kB (kB d6)))
def r13 := kR (kA (kB (kB (kB d6))))
def r15 := kR (kA (kB (kB (kB (kB d6)))))
def c16 : Code := .ret
def c0 : Code := .seq (.region 0 r1 false) (.seq (.region 1 r3 false) (.seq (.region 2 r5 false) (.seq (.region 3 r7 false) (.seq (.region 4 r9 false) (.seq (.region 5 r11 false) (.seq (.region 6 r13 false) (.seq (.region 7 r15 false) c16)))))))
theorem body : Tryz.f7.body = some c0 := by kernel_rfl
def J1 (D : Dp) (H : Hd) (k : Nat) (y30 : Bool) (S : HS) : Option ((Bool) × HS) :=
 some (y30,S)
theorem J1_snd (hD : DS base W0 D) (hH : HT base W0 β0 H)  {y30 : Bool} {S : HS} {p : (Bool) × HS} (h : J1 D H k y30 S = some p) : HR base W0 β0 7 none [.inRegion r15 [11],.code c16] ⟨[Ga,Gb,Gc,Gd,Ge,Gf,Gg,Gh,Gi,Gj,Gk,Gl,Gm,Gn,Go,Gp,Gq,Gr,Gs,Gt,Gu,Gv,Gw,Gx,Gy,Gz,Ka,Kb,Kc,Kd,(.bool y30)],[]⟩ S (fun v S1 => v = (.bool p.1) ∧ S1 = p.2) := by
 unfold J1 at h
 refine qS 0 rfl (oA · rfl) (rE ?_)
 cases h
 exact q_ret rfl at_.at_ rfl (res1 rfl rfl) ⟨rfl,rfl⟩
def J0 (D : Dp) (H : Hd) (k : Nat) (y1 : HP) (y25 : Bool) (S : HS) : Option ((Bool) × HS) :=
 (if y25 = true then
 ((rooms_Rooms_Len.f y1 S).bind fun p12 =>
 J1 D H k (decide (p12.1 = 3)) p12.2) else
 J1 D H k false S)
theorem J0_snd (hD : DS base W0 D) (hH : HT base W0 β0 H)  {y1 : HP} {y25 : Bool} {S : HS} {p : (Bool) × HS} (h : J0 D H k y1 y25 S = some p) : HR base W0 β0 7 none [.inRegion r15 [6,7,8,9,10,11],.code c16] ⟨[Ga,(.ptr y1),Gc,Gd,Ge,Gf,Gg,Gh,Gi,Gj,Gk,Gl,Gm,Gn,Go,Gp,Gq,Gr,Gs,Gt,Gu,Gv,Gw,Gx,Gy,(.bool y25),Ka,Kb,Kc,Kd,Ke],[]⟩ S (fun v S1 => v = (.bool p.1) ∧ S1 = p.2) := by
 unfold J0 at h
 refine qS 26 rfl (oM · rfl) ?_
 rcases ifc h with ⟨hc11,h⟩ | ⟨hc11,h⟩
 ·refine qG 26 27 rfl hc11 (oM · rfl) ?_
  try dsimp only [w0,w1,w2,w3]
  obtain ⟨p12,hp12,h⟩ := bindo h
  refine q_call_g (t := 26) (dst := some 28) rfl rfl rfl hc11 (.func _) (.cons (.tmp rfl) Evs.nil) (HInv.static rooms_Rooms_Len.at_ rooms_Rooms_Len.body (rooms_Rooms_Len.snd  hp12)) ?_
  rintro _ _ ⟨rfl,rfl⟩
  refine qG 26 29 rfl hc11 (oC · rfl rfl) (qS 30 rfl (ok_pick_tt · (.tmp rfl) hc11 (.tmp rfl)) ?_)
  try dsimp only [w0,w1,w2,w3]
  exact J1_snd hD hH h
 ·refine q_skip (dst := some 27) (t := 26) rfl rfl rfl (bfalse hc11) ?_
  try dsimp only [w0,w1,w2,w3]
  refine q_skip (dst := some 28) (t := 26) rfl rfl rfl (bfalse hc11) (q_skip (dst := some 29) (t := 26) rfl rfl rfl (bfalse hc11) (qS 30 rfl (ok_pick_ff · (.tmp rfl) (bfalse hc11) (.bool _)) ?_))
  try dsimp only [w0,w1,w2,w3]
  exact J1_snd hD hH h
def f (D : Dp) (H : Hd) (k : Nat) (S : HS) : Option ((Bool) × HS) :=
 ((rooms_New.f [] [] [] [] 0 0 5 5 5 0 0 0 0 0 0 S).bind fun p1 =>
 ((rooms_Rooms_Join.f D H k p1.1 1 ([35,97] : List UInt8) p1.2).bind fun p2 =>
 ((rooms_Rooms_Join.f D H k p1.1 1 ([35,98] : List UInt8) p2.2).bind fun p3 =>
 ((rooms_Rooms_Join.f D H k p1.1 2 ([35,66] : List UInt8) p3.2).bind fun p4 =>
 ((rooms_Rooms_Join.f D H k p1.1 3 ([35,99] : List UInt8) p4.2).bind fun p5 =>
 ((rooms_Rooms_Peers.f D H k p1.1 1 p5.2).bind fun p6 =>
 ((rollcalllaw20_numbers.f D H p6.1 9 p6.2).bind fun p7 =>
 (if p7.1.2 = true then
 (letv (HS.lit p7.2 [[(.int .i64 2)]] 1) fun p9 =>
 ((rollcallref10_Same.f k p7.1.1 (p9.1) (p9.2)).bind fun p10 =>
 J0 D H k p1.1 p10.1 p10.2)) else
 J0 D H k p1.1 false p7.2))))))))
theorem snd {S : HS} (hD : DS base W0 D) (hH : HT base W0 β0 H)  {p : (Bool) × HS} (h : f D H k S = some p) : HCall Tryz.prog base W0 β0 7 [] S (fun v S1 => v = (.bool p.1) ∧ S1 = p.2) := by
 unfold f at h
 refine HCall.of_run at_.at_ body ?_
 show HR base W0 β0 7 none [.code c0] ⟨[τ,τ,τ,τ,τ,τ,τ,τ,τ,τ,τ,τ,τ,τ,τ,τ,τ,τ,τ,τ,τ,τ,τ,τ,τ,τ,τ,τ,τ,τ,τ],[]⟩ S _
 refine qQ rfl (qR rfl rfl (qS 0 rfl (ok_assign · (.bool _)) (rE ?_)))
 try dsimp only [w0,w1,w2,w3]
 obtain ⟨p1,hp1,h⟩ := bindo h
 refine qQ rfl (qR rfl rfl (qS 4 rfl (ok_build (is := [7,6,8]) (xs := [(.const (.int .i64 5)),(.const (.int .i64 5)),(.const (.int .i64 5))]) (r := [(.str []),(.str []),(.str []),(.str []),(.int .i64 0),(.int .i64 0),(.int .i64 5),(.int .i64 5),(.int .i64 5),(.int .i64 0),(.int .i64 0),(.int .i64 0),(.int .i64 0),(.int .i64 0),(.int .i64 0)]) st28 · rfl rfl (.cons (.int _ _) (.cons (.int _ _) (.cons (.int _ _) Evs.nil))) rfl) (q_call (dst := some 5) rfl (.func _) (.cons (.tmp rfl) Evs.nil) (HInv.static rooms_New.at_ rooms_New.body (rooms_New.snd  hp1)) ?_)))
 rintro _ _ ⟨rfl,rfl⟩
 refine qS 1 rfl (oA · rfl) (rE ?_)
 try dsimp only [w0,w1,w2,w3]
 obtain ⟨p2,hp2,h⟩ := bindo h
 refine qQ rfl (qR rfl rfl (qS 6 rfl (oM · rfl) (q_call (dst := some 7) rfl (.func _) (.cons (.tmp rfl) (.cons (.int _ _) (.cons (.str _) Evs.nil))) (HInv.static rooms_Rooms_Join.at_ rooms_Rooms_Join.body (rooms_Rooms_Join.snd hD hH hp2)) ?_)))
 rintro _ _ ⟨rfl,rfl⟩
 refine rE ?_
 try dsimp only [w0,w1,w2,w3]
 obtain ⟨p3,hp3,h⟩ := bindo h
 refine qQ rfl (qR rfl rfl (qS 8 rfl (oM · rfl) (q_call (dst := some 9) rfl (.func _) (.cons (.tmp rfl) (.cons (.int _ _) (.cons (.str _) Evs.nil))) (HInv.static rooms_Rooms_Join.at_ rooms_Rooms_Join.body (rooms_Rooms_Join.snd hD hH hp3)) ?_)))
 rintro _ _ ⟨rfl,rfl⟩
 refine rE ?_
 try dsimp only [w0,w1,w2,w3]
 obtain ⟨p4,hp4,h⟩ := bindo h
 refine qQ rfl (qR rfl rfl (qS 10 rfl (oM · rfl) (q_call (dst := some 11) rfl (.func _) (.cons (.tmp rfl) (.cons (.int _ _) (.cons (.str _) Evs.nil))) (HInv.static rooms_Rooms_Join.at_ rooms_Rooms_Join.body (rooms_Rooms_Join.snd hD hH hp4)) ?_)))
 rintro _ _ ⟨rfl,rfl⟩
 refine rE ?_
 try dsimp only [w0,w1,w2,w3]
 obtain ⟨p5,hp5,h⟩ := bindo h
 refine qQ rfl (qR rfl rfl (qS 12 rfl (oM · rfl) (q_call (dst := some 13) rfl (.func _) (.cons (.tmp rfl) (.cons (.int _ _) (.cons (.str _) Evs.nil))) (HInv.static rooms_Rooms_Join.at_ rooms_Rooms_Join.body (rooms_Rooms_Join.snd hD hH hp5)) ?_)))
 rintro _ _ ⟨rfl,rfl⟩
 refine rE ?_
 try dsimp only [w0,w1,w2,w3]
 obtain ⟨p6,hp6,h⟩ := bindo h
 refine qQ rfl (qR rfl rfl (qS 15 rfl (oM · rfl) (q_call (dst := some 16) rfl (.func _) (.cons (.tmp rfl) (.cons (.int _ _) Evs.nil)) (HInv.static rooms_Rooms_Peers.at_ rooms_Rooms_Peers.body (rooms_Rooms_Peers.snd hD hH hp6)) ?_)))
 rintro _ _ ⟨rfl,rfl⟩
 obtain ⟨p7,hp7,h⟩ := bindo h
 refine q_call (dst := some 17) rfl (.func _) (.cons (.tmp rfl) (.cons (.int _ _) Evs.nil)) (HInv.static rollcalllaw20_numbers.at_ rollcalllaw20_numbers.body (rollcalllaw20_numbers.snd hD hH hp7)) ?_
 rintro _ _ ⟨rfl,rfl⟩
 refine qS 14 rfl (oM · rfl) ?_
 try dsimp only [w0,w1,w2,w3]
 refine qS 18 rfl (ok_extract · (.tmp rfl) rfl) (qS 19 rfl (ok_extract · (.tmp rfl) rfl) (qS 2 rfl (oA · rfl) (qS 3 rfl (oA · rfl) (rE ?_))))
 try dsimp only [w0,w1,w2,w3]
 refine qQ rfl (qR rfl rfl (qS 20 rfl (oM · rfl) (qS 21 rfl (oM · rfl) ?_)))
 rcases ifc h with ⟨hc8,h⟩ | ⟨hc8,h⟩
 ·obtain ⟨p9,hp9,h⟩ := leto h
  refine qG 21 22 rfl hc8 (oM · rfl) (qG 21 23 rfl hc8 (ok_buildSlice_s (xs := [(.const (.int .i64 2))]) el42 · rfl rfl (by decide) (.cons (.int _ _) Evs.nil) rfl rfl hp9) ?_)
  try dsimp only [w0,w1,w2,w3]
  obtain ⟨p10,hp10,h⟩ := bindo h
  refine q_call_g (t := 21) (dst := some 24) rfl rfl rfl hc8 (.func _) (.cons (.tmp rfl) (.cons (.tmp rfl) Evs.nil)) (HInv.static rollcallref10_Same.at_ rollcallref10_Same.body (rollcallref10_Same.snd  hp10)) ?_
  rintro _ _ ⟨rfl,rfl⟩
  refine qS 25 rfl (ok_pick_tt · (.tmp rfl) hc8 (.tmp rfl)) ?_
  try dsimp only [w0,w1,w2,w3]
  exact J0_snd hD hH h
 ·refine q_skip (dst := some 22) (t := 21) rfl rfl rfl (bfalse hc8) (q_skip (dst := some 23) (t := 21) rfl rfl rfl (bfalse hc8) ?_)
  try dsimp only [w0,w1,w2,w3]
  refine q_skip (dst := some 24) (t := 21) rfl rfl rfl (bfalse hc8) (qS 25 rfl (ok_pick_ff · (.tmp rfl) (bfalse hc8) (.bool _)) ?_)
  try dsimp only [w0,w1,w2,w3]
  exact J0_snd hD hH h
end rollcalllaw20_awake
namespace rollcalllaw20_great
theorem at_ : FnAt Tryz.prog 8 Tryz.f8 := ⟨Tryz.func8,by kernel_rfl⟩
def d0 := (Tryz.f8.body).getD .skip
def r1 := kR (kA d0)
def r4 := kR (kA (kA (kB d0)))
def r7 := kR (kA (kA (kB (kA (kB d0)))))
def d11 := kA (kB (kB d0))
def r12 := kR (kA d11)
def d15 := kA (kA (kB d11))
def r17 := kR (kA (kA d15))
def r24 := kR (kA (kA (kA (kB d15))))
def r27 := kR (kA (kA (kB (kA (kA (kB d15))))))
def r30 := kR (kB (kB d15))
def r32 := kR (kA (kB (kB (kB d0))))
def c31 : Code := .seq (.region 8 r32 false) .ret
def c15 : Code := .seq (.seq (.region 4 r17 false) (.cond (.tmp 10) .skip (.exit 0))) (.seq (.block 1 (.seq (.region 6 r24 false) (.cond (.tmp 19) (.seq (.region 7 r27 false) .ret) .skip))) (.region 5 r30 false))
def c0 : Code := .seq (.region 0 r1 false) (.seq (.seq (.region 1 r4 false) (.cond (.tmp 6) (.seq (.region 2 r7 false) .ret) .skip)) (.seq (.seq (.region 3 r12 false) (.block 0 (.loop c15))) c31))
theorem body : Tryz.f8.body = some c0 := by kernel_rfl
def L0 (k : Nat) : Nat → Sl → Int → HS → Option ((Bool) × HS)
 | 0,_,_,_ => none
 | n + 1,y0,y3,S =>
  (if y3 < (Sl.len y0 : Int) then
  ((S.idx y0 y3 3).bind fun p3 =>
  ((S.ldS (HA.fld p3 2)).bind fun p4 =>
  (if (List.length p4 : Int) > 60 then
  some (true,S) else
  (L0 k n) y0 (w64 (y3 + 1)) S))) else
  some (false,S))
theorem L0_snd  : ∀ {n : Nat} ⦃y0 : Sl⦄ ⦃y3 : Int⦄ ⦃S : HS⦄ ⦃p : (Bool) × HS⦄ ⦃Gb Gc Ge Gf Gg Gh Gi Gj Gk Gl Gm Gn Go Gp Gq Gr Gs Gt : HV⦄,L0 k n y0 y3 S = some p → HR base W0 β0 8 none [.inLoop c15,.inBlock 0,.code c31] ⟨[(Sl.hv y0),Gb,Gc,(.int .i64 y3),Ge,Gf,Gg,Gh,Gi,Gj,Gk,Gl,Gm,Gn,Go,Gp,Gq,Gr,Gs,Gt],[]⟩ S (fun v S1 => v = (.bool p.1) ∧ S1 = p.2) := by
 intro n
 induction n with
 | zero => intro _ _ _ _ _ _ _ _ _ _ _ _ _ _ _ _ _ _ _ _ _ _ h; cases h
 | succ n ih =>
  intro y0 y3 S p Gb Gc Ge Gf Gg Gh Gi Gj Gk Gl Gm Gn Go Gp Gq Gr Gs Gt h
  simp only [L0] at h
  refine hr_inLoop (qQ rfl (qQ rfl (qR rfl rfl (qS 7 rfl (oM · rfl) (qS 8 rfl (oM · rfl) (qS 9 rfl (ok_len_sl (q := Sl.a y0) (n := Sl.len y0) (z := Sl.cap y0) · rfl tu22 (.tmp rfl)) (qS 10 rfl (oB · rfl rfl rfl) (rE ?_))))))))
  try dsimp only [w0,w1,w2,w3]
  rcases ifc h with ⟨hc2,h⟩ | ⟨hc2,h⟩
  ·obtain ⟨p3,hp3,h⟩ := bindo h
   refine q_cond_t rfl (.tmp rfl) (decide_eq_true hc2) (q_skipc rfl (qQ rfl (q_block rfl (qQ rfl (qR rfl rfl (qS 13 rfl (oM · rfl) (qS 14 rfl (oM · rfl) (qS 15 rfl (oX (s := y0) · tu22 sz34 rfl rfl hp3) (qS 16 rfl (oF · fi34_2 (by decide) rfl rfl) ?_)))))))))
   try dsimp only [w0,w1,w2,w3]
   obtain ⟨p4,hp4,h⟩ := bindo h
   refine qS 17 rfl (oL · sc9 rfl rfl (ldS_out hp4)) (qS 18 rfl (ok_len_str · rfl tu9 (.tmp rfl)) (qS 19 rfl (oC · rfl rfl) (rE ?_)))
   try dsimp only [w0,w1,w2,w3]
   rcases ifc h with ⟨hc5,h⟩ | ⟨hc5,h⟩
   ·refine q_cond_t rfl (.tmp rfl) (decide_eq_true hc5) (qQ rfl (qR rfl rfl (qS 2 rfl (ok_assign · (.bool _)) (rE ?_))))
    cases h
    exact q_ret rfl at_.at_ rfl (res1 rfl rfl) ⟨rfl,rfl⟩
   ·refine q_cond_f rfl (.tmp rfl) (decide_eq_false hc5) (q_skipc rfl (hr_inBlock (qR rfl rfl (qS 11 rfl (oM · rfl) (qS 12 rfl (oC · rfl rfl) (qS 3 rfl (oA · rfl) (rE ?_)))))))
    try dsimp only [w0,w1,w2,w3]
    exact ih h
  ·refine q_cond_f rfl (.tmp rfl) (decide_eq_false hc2) (q_exit rfl rfl (qQ rfl (qR rfl rfl (qS 2 rfl (ok_assign · (.bool _)) (rE ?_)))))
   cases h
   exact q_ret rfl at_.at_ rfl (res1 rfl rfl) ⟨rfl,rfl⟩
def f (k : Nat) (x0 : Sl) (S : HS) : Option ((Bool) × HS) :=
 (if (Sl.len x0 : Int) > 40 then
 some (true,S) else
 L0 k k x0 0 S)
theorem snd {x0 : Sl} {S : HS}  {p : (Bool) × HS} (h : f k x0 S = some p) : HCall Tryz.prog base W0 β0 8 [(Sl.hv x0)] S (fun v S1 => v = (.bool p.1) ∧ S1 = p.2) := by
 unfold f at h
 refine HCall.of_run at_.at_ body ?_
 show HR base W0 β0 8 none [.code c0] ⟨[(Sl.hv x0),τ,τ,τ,τ,τ,τ,τ,τ,τ,τ,τ,τ,τ,τ,τ,τ,τ,τ,τ],[]⟩ S _
 refine qQ rfl (qR rfl rfl (qS 2 rfl (ok_assign · (.bool _)) (rE ?_)))
 try dsimp only [w0,w1,w2,w3]
 refine qQ rfl (qQ rfl (qR rfl rfl (qS 4 rfl (oM · rfl) (qS 5 rfl (ok_len_sl (q := Sl.a x0) (n := Sl.len x0) (z := Sl.cap x0) · rfl tu22 (.tmp rfl)) (qS 6 rfl (oC · rfl rfl) (rE ?_))))))
 try dsimp only [w0,w1,w2,w3]
 rcases ifc h with ⟨hc1,h⟩ | ⟨hc1,h⟩
 ·refine q_cond_t rfl (.tmp rfl) (decide_eq_true hc1) (qQ rfl (qR rfl rfl (qS 2 rfl (ok_assign · (.bool _)) (rE ?_))))
  cases h
  exact q_ret rfl at_.at_ rfl (res1 rfl rfl) ⟨rfl,rfl⟩
 ·refine q_cond_f rfl (.tmp rfl) (decide_eq_false hc1) (q_skipc rfl (qQ rfl (qQ rfl (qR rfl rfl (qS 3 rfl (ok_assign · (.int _ _)) (rE ?_))))))
  try dsimp only [w0,w1,w2,w3]
  refine q_block rfl (q_loop rfl ?_)
  try dsimp only [w0,w1,w2,w3]
  exact L0_snd  h
end rollcalllaw20_great
namespace rooms_Rooms_Count
theorem at_ : FnAt Tryz.prog 33 Tryz.f33 := ⟨Tryz.func33,by kernel_rfl⟩
def d0 := (Tryz.f33.body).getD .skip
def r1 := kR (kA d0)
def r4 := kR (kA (kA (kB d0)))
def r7 := kR (kA (kA (kB (kA (kB d0)))))
def r11 := kR (kA (kB (kB d0)))
def c0 : Code := .seq (.region 0 r1 false) (.seq (.seq (.region 1 r4 false) (.cond (.tmp 6) (.seq (.region 2 r7 false) .ret) .skip)) (.seq (.region 3 r11 false) .ret))
theorem body : Tryz.f33.body = some c0 := by kernel_rfl
def f (x0 : HP) (x1 : Int) (S : HS) : Option ((Int) × HS) :=
 (if (Option.isNone x0) = true then
 some (0,S) else
 (x0.bind fun p2 =>
 ((S.ldP (HA.fld p2 16)).bind fun p3 =>
 ((pair_Rel_int_string_Count.f p3 x1 S).bind fun p4 =>
 some (p4.1,p4.2)))))
theorem snd {x0 : HP} {x1 : Int} {S : HS}  {p : (Int) × HS} (h : f x0 x1 S = some p) : HCall Tryz.prog base W0 β0 33 [(.ptr x0),(.int .i64 x1)] S (fun v S1 => v = (.int .i64 p.1) ∧ S1 = p.2) := by
 unfold f at h
 refine HCall.of_run at_.at_ body ?_
 show HR base W0 β0 33 none [.code c0] ⟨[(.ptr x0),(.int .i64 x1),τ,τ,τ,τ,τ,τ,τ,τ,τ,τ,τ],[]⟩ S _
 refine qQ rfl (qR rfl rfl (qS 4 rfl (ok_assign · (.int _ _)) (rE ?_)))
 try dsimp only [w0,w1,w2,w3]
 refine qQ rfl (qQ rfl (qR rfl rfl (qS 5 rfl (oM · rfl) (qS 6 rfl (ok_nil_ptr · tu25 (.tmp rfl) (.inl ⟨rfl,rfl⟩)) (rE ?_)))))
 try dsimp only [w0,w1,w2,w3]
 rcases ifc h with ⟨hc1,h⟩ | ⟨hc1,h⟩
 ·refine q_cond_t rfl (.tmp rfl) hc1 (qQ rfl (qR rfl rfl (qS 4 rfl (ok_assign · (.int _ _)) (rE ?_))))
  cases h
  exact q_ret rfl at_.at_ rfl (res1 rfl rfl) ⟨rfl,rfl⟩
 ·obtain ⟨p2,hp2,h⟩ := bindo h
  obtain ⟨p3,hp3,h⟩ := bindo h
  refine q_cond_f rfl (.tmp rfl) (bfalse hc1) (q_skipc rfl (qQ rfl (qR rfl rfl (qS 7 rfl (oM · rfl) (qS 8 rfl (oN · rfl hp2) (qS 9 rfl (oF · fi83_2 (by decide) rfl rfl) (qS 10 rfl (oL · sc79 rfl rfl (ldP_out hp3)) ?_)))))))
  try dsimp only [w0,w1,w2,w3]
  obtain ⟨p4,hp4,h⟩ := bindo h
  refine qS 11 rfl (oM · rfl) (q_call (dst := some 12) rfl (.func _) (.cons (.tmp rfl) (.cons (.tmp rfl) Evs.nil)) (HInv.static pair_Rel_int_string_Count.at_ pair_Rel_int_string_Count.body (pair_Rel_int_string_Count.snd  hp4)) ?_)
  rintro _ _ ⟨rfl,rfl⟩
  refine qS 4 rfl (oA · rfl) (rE ?_)
  cases h
  exact q_ret rfl at_.at_ rfl (res1 rfl rfl) ⟨rfl,rfl⟩
end rooms_Rooms_Count
namespace rooms_Rooms_All_1
theorem at_ : FnAt Tryz.prog 59 Tryz.f59 := ⟨Tryz.func59,by kernel_rfl⟩
def c0 : Code := .skip
theorem body : Tryz.f59.body = some c0 := by kernel_rfl
def f (x0 : HV) : Option (Unit) :=
 some ()
theorem snd {x0 : HV} {S : HS}  {p : Unit} (h : f x0 = some p) : HCall Tryz.prog base W0 β0 59 [x0] S (fun v S1 => v = (.tup []) ∧ S1 = S) := by
 unfold f at h
 refine HCall.of_run at_.at_ body ?_
 show HR base W0 β0 59 none [.code c0] ⟨[x0,τ],[]⟩ S _
 cases h
 exact q_skipc rfl (q_end at_.at_ rfl (res0 rfl) ⟨rfl,rfl⟩)
end rooms_Rooms_All_1
end
end Go.Proofs.YtbmfomkfmpppiaaGreat.X
