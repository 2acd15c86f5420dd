/- Functions of the program, each as a Lean function over the layer HL: a call answers what the Lean function answers, where it answers. Functions of the program, each as a Lean function over the layer HL: a call answers what the Lean function answers, where it answers. -/
import Derived.Test.YtbmfomkfmpppiaaGreatProg
import Derived.Test.YtbmfomkfmpppiaaGreatPart9
namespace Go.Proofs.YtbmfomkfmpppiaaGreat.X
open Go.Proofs.YtbmfomkfmpppiaaGreat.HL
set_option linter.unusedVariables false
set_option linter.unusedSimpArgs false
set_option maxRecDepth 20000
set_option maxHeartbeats 4000000
noncomputable section
variable {b : Nat} {w : World} {e : Bt}
variable {S : HS} {D : Dp} {H : Hd} {k : Nat} {Ga j q m F o N Gh i a G B M O K A C E I J L Q U V Z c d g r Kd Ke Kf Kg Kh Ki Kj Kk Kl Km Kn Ko Kp Kq Kr Ks Kt Ku Kv Kw Kx Ky Kz Ma Mb Mc Md Me Mf Mg Mh Mi Mj Mk Ml Mm Mn Mo Mp Mq Mr Ms Mt Mu Mv Mw Mx My Mz : HV}
namespace Y52
theorem at_ : FnAt Tryz.prog 49 Tryz.f49 := ⟨Tryz.func49,by kernel_rfl⟩
def d0 := (Tryz.f49.body).getD .skip
def r1 := kT d0
def r4 := kT (kY d0)
def r9 := kT (kW d0)
def r10 := kR (kW (kB d0))
def c8 : Code := .seq (.region 2 r9 false) (.region 3 r10 false)
def c5 : Code := .cond (.tmp 18) .ret .skip
def c0 : Code := .seq (.region 0 r1 false) (.seq (.seq (.region 1 r4 false) c5) c8)
theorem body : Tryz.f49.body = some c0 := by kernel_rfl
variable {y0 : HP} {y1 y6 : Int} {y2 y18 : Bool}
def J0 (D : Dp) (H : Hd) (k : Nat) (y0 : HP) (y1 : Int) (y2 : Bool) (y6 : Int) (y18 : Bool) (S : HS) : Option ((Unit) × HS) :=
 (if y18 = true then
 some ((),S) else
 (y0.bind fun p4 =>
 ((S.ldSl (HA.fld p4 2)).bind fun p5 =>
 (letv (HS.lit S [[(.int .i64 y1),(.bool y2),(.bool false)]] 3) fun p6 =>
 ((Y88.f p5 y6 (p6.1) (p6.2)).bind fun p7 =>
 (y0.bind fun p8 =>
 ((p7.2.sets (HA.fld p8 2) [(Sl.hv p7.1)]).bind fun p9 =>
 (y0.bind fun p10 =>
 ((p9.ldP (HA.fld p10 8)).bind fun p11 =>
 (letv (HS.lit p9 [[(.int .i64 y1)]] 1) fun p12 =>
 ((Y20.f k p11 (p12.1) (p12.2)).bind fun p13 =>
 some ((),p13.2))))))))))))
theorem J0_snd (hD : DS b w D) (hH : HT b w e H) {p : (Unit) × HS} (h : J0 D H k y0 y1 y2 y6 y18 S = some p) : HR b w e 49 none [.code c5,.code c8] ⟨[(.ptr y0),(.int .i64 y1),(.bool y2),m,F,o,(.int .i64 y6),Gh,i,a,G,B,M,O,K,A,C,E,(.bool y18),J,L,Q,U,V,Z,c,d,g,r,Kd,Ke,Kf,Kg,Kh,Ki,Kj,Kk,Kl,Km],[]⟩ S (RR (.tup []) p.2) := by
 unfold J0 at h
 rcases ifc h with ⟨hc3,h⟩ | ⟨hc3,h⟩
 ·cases h
  exact Zxb rfl (.tmp rfl) hc3 (Zxl rfl at_.at_ rfl (res0 rfl) ⟨rfl,rfl⟩)
 ·obtain ⟨p4,hp4,h⟩ := bindo h
  refine Zxc rfl (.tmp rfl) (bfalse hc3) (Zxd rfl (qT rfl rfl rfl (uM 19 rfl rfl (uM 20 rfl rfl (uN 21 rfl rfl hp4 (uF 22 rfl Zaav (by decide) rfl rfl ?_))))))
  try dsimp only [w0,w1,w2,w3]
  obtain ⟨p5,hp5,h⟩ := bindo h
  refine uL 23 rfl sc87 rfl rfl (Zxj hp5) (uM 24 rfl rfl (uM 25 rfl rfl (uM 26 rfl rfl ?_)))
  try dsimp only [w0,w1,w2,w3]
  obtain ⟨p6,hp6,h⟩ := leto h
  obtain ⟨p7,hp7,h⟩ := bindo h
  refine qS 27 rfl (Zy1 (is := [0,1]) (xs := [(.tmp 25),(.tmp 26)]) (r := [(.int .i64 y1),(.bool y2),(.bool false)]) st62 · rfl rfl (ev2 rfl rfl) rfl) (qS 28 rfl (Zxp (xs := [(.tmp 27)]) el87 · rfl rfl (by decide) (ev1 rfl) rfl rfl hp6) (uQ 29 rfl (.func _) (ev3 rfl rfl rfl) (HInv.static Y88.at_ Y88.body (Y88.snd  hp7)) ?_))
  obtain ⟨p8,hp8,h⟩ := bindo h
  refine uN 30 rfl rfl hp8 ?_
  try dsimp only [w0,w1,w2,w3]
  obtain ⟨p9,hp9,h⟩ := bindo h
  refine uF 31 rfl Zaav (by decide) rfl rfl (qN rfl (Zxk (v := (Sl.hv p7.1)) · sz87 (.tmp rfl) rfl (.tmp rfl) rfl hp9) (rE ?_))
  dsimp only [w0,w1,w2,w3]
  obtain ⟨p10,hp10,p11,hp11,h⟩ := bd2 h
  refine qR rfl rfl (uM 32 rfl rfl (uN 33 rfl rfl hp10 (uF 34 rfl fi114_8 (by decide) rfl rfl (uL 35 rfl sc96 rfl rfl (Zx0 hp11) ?_))))
  try dsimp only [w0,w1,w2,w3]
  obtain ⟨p12,hp12,h⟩ := leto h
  obtain ⟨p13,hp13,h⟩ := bindo h
  refine uM 36 rfl rfl (qS 37 rfl (Zxp (xs := [(.tmp 36)]) el42 · rfl rfl (by decide) (ev1 rfl) rfl rfl hp12) (uQ 38 rfl (.func _) (ev2 rfl rfl) (HInv.static Y20.at_ Y20.body (Y20.snd  hp13)) (rE ?_)))
  dsimp only [w0,w1,w2,w3]
  cases h
  exact Zzq at_.at_ rfl (res0 rfl) ⟨rfl,rfl⟩
def f (D : Dp) (H : Hd) (k : Nat) (x0 : HP) (x1 : Int) (x2 : Bool) (S : HS) : Option ((Unit) × HS) :=
 ((Y22.f D H k x0 x1 S).bind fun p1 =>
 (if (Option.isNone x0) = true then
 J0 D H k x0 x1 x2 p1.1.1 true p1.2 else
 J0 D H k x0 x1 x2 p1.1.1 p1.1.2 p1.2))
theorem snd {x0 : HP} {x1 : Int} {x2 : Bool} (hD : DS b w D) (hH : HT b w e H) {p : (Unit) × HS} (h : f D H k x0 x1 x2 S = some p) : HC b w e 49 [(.ptr x0),(.int .i64 x1),(.bool x2)] S (RR (.tup []) p.2) := by
 unfold f at h
 refine HCall.of_run at_.at_ body ?_
 show HR b w e 49 none [.code c0] ⟨[(.ptr x0),(.int .i64 x1),(.bool x2),z,z,z,z,z,z,z,z,z,z,z,z,z,z,z,z,z,z,z,z,z,z,z,z,z,z,z,z,z,z,z,z,z,z,z,z],[]⟩ S _
 obtain ⟨p1,hp1,h⟩ := bindo h
 refine qT rfl rfl rfl (uM 9 rfl rfl (uM 10 rfl rfl (uQ 11 rfl (.func _) (ev2 rfl rfl) (HInv.static Y22.at_ Y22.body (Y22.snd hD hH hp1)) (uM 8 rfl rfl ?_))))
 try dsimp only [w0,w1,w2,w3]
 refine qS 12 rfl (Zxr · (.tmp rfl) rfl) (qS 13 rfl (Zxr · (.tmp rfl) rfl) (uA 6 rfl rfl (uA 7 rfl rfl (rE ?_))))
 dsimp only [w0,w1,w2,w3]
 refine qQ rfl (qT rfl rfl rfl (uM 14 rfl rfl (qS 15 rfl (Zxt · tu36 (.tmp rfl) (.inl ⟨rfl,rfl⟩)) (uM 16 rfl rfl ?_))))
 rcases ifc h with ⟨hc2,h⟩ | ⟨hc2,h⟩
 ·refine Zxi (dst := some 17) (t := 16) rfl rfl rfl hc2 ?_
  try dsimp only [w0,w1,w2,w3]
  refine qS 18 rfl (Zxh · (.tmp rfl) hc2 (.bool _)) (rE ?_)
  dsimp only [w0,w1,w2,w3]
  exact J0_snd hD hH h
 ·refine qG 16 17 rfl (bfalse hc2) (oM · rfl) ?_
  try dsimp only [w0,w1,w2,w3]
  refine qS 18 rfl (Zxm · (.tmp rfl) (bfalse hc2) (.tmp rfl)) (rE ?_)
  dsimp only [w0,w1,w2,w3]
  exact J0_snd hD hH h
end Y52
namespace Y1
theorem at_ : FnAt Tryz.prog 12 Tryz.f12 := ⟨Tryz.func12,by kernel_rfl⟩
def d0 := (Tryz.f12.body).getD .skip
def r1 := kT d0
def r4 := kT (kY d0)
def r7 := kT (kY (kY d0))
def r11 := kT (kW d0)
def d12 := kW (kB d0)
def r13 := kT d12
def r16 := kT (kY d12)
def r19 := kT (kY (kY d12))
def d23 := kY (kB d12)
def r24 := kT d23
def r27 := kT (kY d23)
def r29 := kT (kZ (kB d23))
def r32 := kT (kY (kZ (kB d23)))
def d36 := kW (kB d12)
def r38 := kT (kA d36)
def r41 := kT (kY (kA d36))
def r46 := kT (kY d36)
def r48 := kT (kZ (kB d36))
def r51 := kT (kW d36)
def r53 := kT (kW (kB d36))
def c50 : Code := .seq (.region 15 r51 false) (.seq (.region 16 r53 false) .ret)
def c36 : Code := .seq (.seq (.region 11 r38 false) (.cond (.tmp 62) (.seq (.region 12 r41 false) .ret) .skip)) (.seq (.seq (.region 13 r46 false) (.cond (.tmp 64) (.region 14 r48 false) .skip)) c50)
def c22 : Code := .seq (.seq (.region 7 r24 false) (.cond (.tmp 36) (.seq (.region 8 r27 false) (.seq (.region 9 r29 true) (.cond (.tmp 54) (.seq (.region 10 r32 false) .ret) .skip))) .skip)) c36
def c17 : Code := .cond (.tmp 33) (.seq (.region 6 r19 false) .ret) .skip
def c0 : Code := .seq (.region 0 r1 false) (.seq (.seq (.region 1 r4 false) (.cond (.tmp 12) (.seq (.region 2 r7 false) .ret) .skip)) (.seq (.region 3 r11 false) (.seq (.region 4 r13 false) (.seq (.seq (.region 5 r16 false) c17) c22))))
theorem body : Tryz.f12.body = some c0 := by kernel_rfl
variable {y0 y8 : HP} {y1 : Int} {y2 y10 : (List UInt8)} {y9 y33 : Bool}
def J2 (D : Dp) (H : Hd) (k : Nat) (y1 : Int) (y8 : HP) (y9 : Bool) (S : HS) : Option ((HP × Int) × HS) :=
 ((Y52.f D H k y8 y1 (!y9) S).bind fun p31 =>
 some ((y8,0),p31.2))
theorem J2_snd (hD : DS b w D) (hH : HT b w e H) {p : (HP × Int) × HS} (h : J2 D H k y1 y8 y9 S = some p) : HR b w e 12 none [.code c50] ⟨[Ga,(.int .i64 y1),q,m,F,o,N,Gh,(.ptr y8),(.bool y9),G,B,M,O,K,A,C,E,I,J,L,Q,U,V,Z,c,d,g,r,Kd,Ke,Kf,Kg,Kh,Ki,Kj,Kk,Kl,Km,Kn,Ko,Kp,Kq,Kr,Ks,Kt,Ku,Kv,Kw,Kx,Ky,Kz,Ma,Mb,Mc,Md,Me,Mf,Mg,Mh,Mi,Mj,Mk,Ml,Mm,Mn,Mo,Mp,Mq,Mr,Ms,Mt,Mu,Mv,Mw,Mx,My,Mz],[]⟩ S (RR (.tup [(.ptr p.1.1),(.int .i64 p.1.2)]) p.2) := by
 unfold J2 at h
 refine qT rfl rfl rfl (uM 72 rfl rfl (uM 73 rfl rfl (uM 74 rfl rfl (qS 75 rfl (Zys · (.tmp rfl)) ?_))))
 try dsimp only [w0,w1,w2,w3]
 obtain ⟨p31,hp31,h⟩ := bindo h
 refine uQ 76 rfl (.func _) (ev3 rfl rfl rfl) (HInv.static Y52.at_ Y52.body (Y52.snd hD hH hp31)) (rE ?_)
 dsimp only [w0,w1,w2,w3]
 refine qT rfl rfl rfl (uM 77 rfl rfl (uA 6 rfl rfl (qS 7 rfl (Zxa · (.int _ _)) (rE ?_))))
 cases h
 exact Zxl rfl at_.at_ rfl (res2 rfl rfl rfl) ⟨rfl,rfl⟩
def J1 (D : Dp) (H : Hd) (k : Nat) (y0 : HP) (y1 : Int) (y2 : (List UInt8)) (y8 : HP) (y9 : Bool) (y10 : (List UInt8)) (S : HS) : Option ((HP × Int) × HS) :=
 (y0.bind fun p23 =>
 ((S.ldP (HA.fld p23 16)).bind fun p24 =>
 ((Y72.f k p24 y1 y10 S).bind fun p25 =>
 (if (!decide (p25.1 = 0)) = true then
 some ((none,405),p25.2) else
 (if (!y9) = true then
 (y0.bind fun p28 =>
 ((p25.2.ldP (HA.fld p28 15)).bind fun p29 =>
 ((Y53.f D H k p29 y2 y8 p25.2).bind fun p30 =>
 J2 D H k y1 y8 y9 p30.2))) else
 J2 D H k y1 y8 y9 p25.2)))))
theorem J1_snd (hD : DS b w D) (hH : HT b w e H) {p : (HP × Int) × HS} (h : J1 D H k y0 y1 y2 y8 y9 y10 S = some p) : HR b w e 12 none [.code c36] ⟨[(.ptr y0),(.int .i64 y1),(.str y2),m,F,o,N,Gh,(.ptr y8),(.bool y9),(.str y10),B,M,O,K,A,C,E,I,J,L,Q,U,V,Z,c,d,g,r,Kd,Ke,Kf,Kg,Kh,Ki,Kj,Kk,Kl,Km,Kn,Ko,Kp,Kq,Kr,Ks,Kt,Ku,Kv,Kw,Kx,Ky,Kz,Ma,Mb,Mc,Md,Me,Mf,Mg,Mh,Mi,Mj,Mk,Ml,Mm,Mn,Mo,Mp,Mq,Mr,Ms,Mt,Mu,Mv,Mw,Mx,My,Mz],[]⟩ S (RR (.tup [(.ptr p.1.1),(.int .i64 p.1.2)]) p.2) := by
 unfold J1 at h
 obtain ⟨p23,hp23,p24,hp24,h⟩ := bd2 h
 refine qQ rfl (qT rfl rfl rfl (uM 55 rfl rfl (uN 56 rfl rfl hp23 (uF 57 rfl Zafi (by decide) rfl rfl (uL 58 rfl sc79 rfl rfl (Zx0 hp24) ?_)))))
 try dsimp only [w0,w1,w2,w3]
 obtain ⟨p25,hp25,h⟩ := bindo h
 refine uM 59 rfl rfl (uM 60 rfl rfl (uQ 61 rfl (.func _) (ev3 rfl rfl rfl) (HInv.static Y72.at_ Y72.body (Y72.snd  hp25)) (uC 62 rfl rfl rfl (rE ?_))))
 dsimp only [w0,w1,w2,w3]
 rcases ifc h with ⟨hc26,h⟩ | ⟨hc26,h⟩
 ·refine Zxb rfl (.tmp rfl) hc26 (qT rfl rfl rfl (qS 6 rfl (Zxa · (.const fun _ => .ptrNil)) (qS 7 rfl (Zxa · (.int _ _)) (rE ?_))))
  cases h
  exact Zxl rfl at_.at_ rfl (res2 rfl rfl rfl) ⟨rfl,rfl⟩
 ·refine Zxc rfl (.tmp rfl) (bfalse hc26) (Zxd rfl (qQ rfl (qT rfl rfl rfl (uM 63 rfl rfl (qS 64 rfl (Zys · (.tmp rfl)) (rE ?_))))))
  dsimp only [w0,w1,w2,w3]
  rcases ifc h with ⟨hc27,h⟩ | ⟨hc27,h⟩
  ·obtain ⟨p28,hp28,p29,hp29,h⟩ := bd2 h
   refine Zxb rfl (.tmp rfl) hc27 (qR rfl rfl (uM 65 rfl rfl (uN 66 rfl rfl hp28 (uF 67 rfl Zab1 (by decide) rfl rfl (uL 68 rfl sc75 rfl rfl (Zx0 hp29) ?_)))))
   try dsimp only [w0,w1,w2,w3]
   obtain ⟨p30,hp30,h⟩ := bindo h
   refine uM 69 rfl rfl (uM 70 rfl rfl (uQ 71 rfl (.func _) (ev3 rfl rfl rfl) (HInv.static Y53.at_ Y53.body (Y53.snd hD hH hp30)) (rE ?_)))
   dsimp only [w0,w1,w2,w3]
   exact J2_snd hD hH h
  ·refine Zxc rfl (.tmp rfl) (bfalse hc27) (Zxd rfl ?_)
   try dsimp only [w0,w1,w2,w3]
   exact J2_snd hD hH h
def J0 (D : Dp) (H : Hd) (k : Nat) (y0 : HP) (y1 : Int) (y2 : (List UInt8)) (y8 : HP) (y9 : Bool) (y10 : (List UInt8)) (y33 : Bool) (S : HS) : Option ((HP × Int) × HS) :=
 (if y33 = true then
 some ((y8,0),S) else
 (if (!y9) = true then
 (y0.bind fun p12 =>
 ((S.ldI .i64 (HA.fld (HA.fld p12 0) 8)).bind fun p13 =>
 ((Y68.f k y2 p13 S).bind fun p14 =>
 (y0.bind fun p15 =>
 ((p14.2.ldP (HA.fld p15 15)).bind fun p16 =>
 ((Y35.f p16 p14.2).bind fun p17 =>
 (y0.bind fun p18 =>
 ((p17.2.ldI .i64 (HA.fld (HA.fld p18 0) 7)).bind fun p19 =>
 ((p14.2.ldI .i64 (HA.fld (HA.fld p18 0) 7)).bind fun p20 =>
 (if p20 = p19 then
 (if p17.1 ≥ p19 then
 some ((none,405),p17.2) else
 J1 D H k y0 y1 y2 p14.1 y9 y10 p17.2) else none)))))))))) else
 J1 D H k y0 y1 y2 y8 y9 y10 S))
theorem J0_snd (hD : DS b w D) (hH : HT b w e H) {p : (HP × Int) × HS} (h : J0 D H k y0 y1 y2 y8 y9 y10 y33 S = some p) : HR b w e 12 none [.code c17,.code c22] ⟨[(.ptr y0),(.int .i64 y1),(.str y2),m,F,o,N,Gh,(.ptr y8),(.bool y9),(.str y10),B,M,O,K,A,C,E,I,J,L,Q,U,V,Z,c,d,g,r,Kd,Ke,Kf,Kg,(.bool y33),Ki,Kj,Kk,Kl,Km,Kn,Ko,Kp,Kq,Kr,Ks,Kt,Ku,Kv,Kw,Kx,Ky,Kz,Ma,Mb,Mc,Md,Me,Mf,Mg,Mh,Mi,Mj,Mk,Ml,Mm,Mn,Mo,Mp,Mq,Mr,Ms,Mt,Mu,Mv,Mw,Mx,My,Mz],[]⟩ S (RR (.tup [(.ptr p.1.1),(.int .i64 p.1.2)]) p.2) := by
 unfold J0 at h
 rcases ifc h with ⟨hc10,h⟩ | ⟨hc10,h⟩
 ·refine Zxb rfl (.tmp rfl) hc10 (qT rfl rfl rfl (uM 34 rfl rfl (uA 6 rfl rfl (qS 7 rfl (Zxa · (.int _ _)) (rE ?_)))))
  cases h
  exact Zxl rfl at_.at_ rfl (res2 rfl rfl rfl) ⟨rfl,rfl⟩
 ·refine Zxc rfl (.tmp rfl) (bfalse hc10) (Zxd rfl (qQ rfl (qT rfl rfl rfl (uM 35 rfl rfl (qS 36 rfl (Zys · (.tmp rfl)) (rE ?_))))))
  dsimp only [w0,w1,w2,w3]
  rcases ifc h with ⟨hc11,h⟩ | ⟨hc11,h⟩
  ·obtain ⟨p12,hp12,h⟩ := bindo h
   refine Zxb rfl (.tmp rfl) hc11 (qT rfl rfl rfl (uM 37 rfl rfl (uM 38 rfl rfl (uN 39 rfl rfl hp12 (uF 40 rfl fi83_0 (by decide) rfl rfl ?_)))))
   try dsimp only [w0,w1,w2,w3]
   obtain ⟨p13,hp13,p14,hp14,h⟩ := bd2 h
   refine uF 41 rfl fi28_8 (by decide) rfl rfl (uL 42 rfl sc3 rfl rfl (Zxq hp13) (uQ 43 rfl (.func _) (ev2 rfl rfl) (HInv.static Y68.at_ Y68.body (Y68.snd  hp14)) (uA 8 rfl rfl (rE ?_))))
   dsimp only [w0,w1,w2,w3]
   refine qQ rfl ?_
   refine Zx8 (cls := [0,0,0,1,2,0,0,0,0,3,0]) (rk := [0,1,2,3,4,5,6,7,8,9,10]) rfl (by kernel_rfl) ?_
   refine xf 44 [0] rfl (oM · rfl) ?_
   obtain ⟨p15,hp15,h⟩ := bindo h
   refine xf 45 [44] rfl (oN · rfl hp15) ?_
   refine xf 46 [45] rfl (oF · Zab1 (by decide) rfl rfl) ?_
   obtain ⟨p16,hp16,h⟩ := bindo h
   refine xr 47 [46] rfl (oL · sc75 rfl rfl (Zx0 hp16)) ?_
   try dsimp only [w0,w1,w2,w3]
   obtain ⟨p17,hp17,h⟩ := bindo h
   refine Zzc (Zaa3 (dst := some 48) (ts := [47]) rfl (by kernel_rfl) (.func _) (ev1 rfl) (HInv.static Y35.at_ Y35.body (Y35.snd  hp17))) rfl trivial ?_
   refine xf 49 [0] rfl (oM · rfl) ?_
   obtain ⟨p18,hp18,h⟩ := bindo h
   refine xf 50 [49] rfl (oN · rfl hp18) ?_
   refine xf 51 [50] rfl (oF · fi83_0 (by decide) rfl rfl) ?_
   try dsimp only [w0,w1,w2,w3]
   refine xf 52 [51] rfl (oF · fi28_7 (by decide) rfl rfl) ?_
   obtain ⟨p19,hp19,p20,hp20,h⟩ := bd2 h
   obtain ⟨hg21,h⟩ := gd h
   refine Zx3 (r_op (dst := some 53) (ts := [52]) rfl (by intro _ _ h; cases h) (by kernel_rfl) (fun _ ho => Zxs ho sc3 (.tmp rfl) rfl (Zxq hp19))) rfl ⟨.inr (l_op (dst := some 53) (ts := [52]) rfl (by intro _ _ h; cases h) (by kernel_rfl) (fun _ ho => Zxs ho sc3 (.tmp rfl) rfl (Zxq (hp20.trans (congrArg some hg21))))),trivial⟩ ?_
   refine xf 54 [48,53] rfl (oB · rfl rfl rfl) ?_
   refine Zx5 rfl ?_
   refine rE ?_
   try dsimp only [w0,w1,w2,w3]
   rcases ifc h with ⟨hc22,h⟩ | ⟨hc22,h⟩
   ·refine Zxb rfl (.tmp rfl) (decide_eq_true hc22) (qT rfl rfl rfl (qS 6 rfl (Zxa · (.const fun _ => .ptrNil)) (qS 7 rfl (Zxa · (.int _ _)) (rE ?_))))
    cases h
    exact Zxl rfl at_.at_ rfl (res2 rfl rfl rfl) ⟨rfl,rfl⟩
   ·refine Zxc rfl (.tmp rfl) (decide_eq_false hc22) (Zxd rfl ?_)
    try dsimp only [w0,w1,w2,w3]
    exact J1_snd hD hH h
  ·refine Zxc rfl (.tmp rfl) (bfalse hc11) (Zxd rfl ?_)
   try dsimp only [w0,w1,w2,w3]
   exact J1_snd hD hH h
def f (D : Dp) (H : Hd) (k : Nat) (x0 : HP) (x1 : Int) (x2 : (List UInt8)) (S : HS) : Option ((HP × Int) × HS) :=
 (if (Option.isNone x0) = true then
 some ((none,405),S) else
 (x0.bind fun p2 =>
 ((S.ldP (HA.fld p2 15)).bind fun p3 =>
 ((Y15.f D H k p3 x2 S).bind fun p4 =>
 ((Y28.f k x2 p4.2).bind fun p5 =>
 (if p4.1.2 = true then
 (x0.bind fun p7 =>
 ((p5.2.ldP (HA.fld p7 16)).bind fun p8 =>
 ((Y16.f k p8 x1 p5.1 p5.2).bind fun p9 =>
 J0 D H k x0 x1 x2 p4.1.1 p4.1.2 p5.1 p9.1 p9.2))) else
 J0 D H k x0 x1 x2 p4.1.1 p4.1.2 p5.1 false p5.2))))))
theorem snd {x0 : HP} {x1 : Int} {x2 : (List UInt8)} (hD : DS b w D) (hH : HT b w e H) {p : (HP × Int) × HS} (h : f D H k x0 x1 x2 S = some p) : HC b w e 12 [(.ptr x0),(.int .i64 x1),(.str x2)] S (RR (.tup [(.ptr p.1.1),(.int .i64 p.1.2)]) p.2) := by
 unfold f at h
 refine HCall.of_run at_.at_ body ?_
 show HR b w e 12 none [.code c0] ⟨[(.ptr x0),(.int .i64 x1),(.str x2),z,z,z,z,z,z,z,z,z,z,z,z,z,z,z,z,z,z,z,z,z,z,z,z,z,z,z,z,z,z,z,z,z,z,z,z,z,z,z,z,z,z,z,z,z,z,z,z,z,z,z,z,z,z,z,z,z,z,z,z,z,z,z,z,z,z,z,z,z,z,z,z,z,z,z],[]⟩ S _
 refine qT rfl rfl rfl (qS 6 rfl (Zxa · (.const fun _ => .ptrNil)) (qS 7 rfl (Zxa · (.int _ _)) (rE ?_)))
 dsimp only [w0,w1,w2,w3]
 refine qQ rfl (qT rfl rfl rfl (uM 11 rfl rfl (qS 12 rfl (Zxt · tu25 (.tmp rfl) (.inl ⟨rfl,rfl⟩)) (rE ?_))))
 dsimp only [w0,w1,w2,w3]
 rcases ifc h with ⟨hc1,h⟩ | ⟨hc1,h⟩
 ·refine Zxb rfl (.tmp rfl) hc1 (qT rfl rfl rfl (qS 6 rfl (Zxa · (.const fun _ => .ptrNil)) (qS 7 rfl (Zxa · (.int _ _)) (rE ?_))))
  cases h
  exact Zxl rfl at_.at_ rfl (res2 rfl rfl rfl) ⟨rfl,rfl⟩
 ·obtain ⟨p2,hp2,p3,hp3,h⟩ := bd2 h
  refine Zxc rfl (.tmp rfl) (bfalse hc1) (Zxd rfl (qT rfl rfl rfl (uM 14 rfl rfl (uN 15 rfl rfl hp2 (uF 16 rfl Zab1 (by decide) rfl rfl (uL 17 rfl sc75 rfl rfl (Zx0 hp3) ?_))))))
  try dsimp only [w0,w1,w2,w3]
  obtain ⟨p4,hp4,h⟩ := bindo h
  refine uM 18 rfl rfl (uQ 19 rfl (.func _) (ev2 rfl rfl) (HInv.static Y15.at_ Y15.body (Y15.snd hD hH hp4)) (uM 13 rfl rfl (qS 20 rfl (Zxr · (.tmp rfl) rfl) ?_)))
  try dsimp only [w0,w1,w2,w3]
  refine qS 21 rfl (Zxr · (.tmp rfl) rfl) (uA 8 rfl rfl (uA 9 rfl rfl (rE ?_)))
  dsimp only [w0,w1,w2,w3]
  obtain ⟨p5,hp5,h⟩ := bindo h
  refine qT rfl rfl rfl (uM 22 rfl rfl (uQ 23 rfl (.func _) (ev1 rfl) (HInv.static Y28.at_ Y28.body (Y28.snd  hp5)) (uA 10 rfl rfl (rE ?_))))
  dsimp only [w0,w1,w2,w3]
  refine qQ rfl (qT rfl rfl rfl (uM 24 rfl rfl (uM 25 rfl rfl ?_)))
  rcases ifc h with ⟨hc6,h⟩ | ⟨hc6,h⟩
  ·obtain ⟨p7,hp7,h⟩ := bindo h
   refine qG 25 26 rfl hc6 (oM · rfl) (qG 25 27 rfl hc6 (oN · rfl hp7) ?_)
   try dsimp only [w0,w1,w2,w3]
   obtain ⟨p8,hp8,h⟩ := bindo h
   refine qG 25 28 rfl hc6 (oF · Zafi (by decide) rfl rfl) (qG 25 29 rfl hc6 (oL · sc79 rfl rfl (Zx0 hp8)) (qG 25 30 rfl hc6 (oM · rfl) (qG 25 31 rfl hc6 (oM · rfl) ?_)))
   try dsimp only [w0,w1,w2,w3]
   obtain ⟨p9,hp9,h⟩ := bindo h
   refine Zyp (t := 25) (dst := some 32) rfl rfl rfl hc6 (.func _) (ev3 rfl rfl rfl) (HInv.static Y16.at_ Y16.body (Y16.snd  hp9)) ?_
   rintro _ _ ⟨rfl,rfl⟩
   refine qS 33 rfl (Zxh · (.tmp rfl) hc6 (.tmp rfl)) (rE ?_)
   dsimp only [w0,w1,w2,w3]
   exact J0_snd hD hH h
  ·refine Zxi (dst := some 26) (t := 25) rfl rfl rfl (bfalse hc6) (Zxi (dst := some 27) (t := 25) rfl rfl rfl (bfalse hc6) ?_)
   try dsimp only [w0,w1,w2,w3]
   refine Zxi (dst := some 28) (t := 25) rfl rfl rfl (bfalse hc6) (Zxi (dst := some 29) (t := 25) rfl rfl rfl (bfalse hc6) (Zxi (dst := some 30) (t := 25) rfl rfl rfl (bfalse hc6) (Zxi (dst := some 31) (t := 25) rfl rfl rfl (bfalse hc6) ?_)))
   try dsimp only [w0,w1,w2,w3]
   refine Zxi (dst := some 32) (t := 25) rfl rfl rfl (bfalse hc6) (qS 33 rfl (Zxm · (.tmp rfl) (bfalse hc6) (.bool _)) (rE ?_))
   dsimp only [w0,w1,w2,w3]
   exact J0_snd hD hH h
end Y1
namespace Y109
theorem at_ : FnAt Tryz.prog 93 Tryz.f93 := ⟨Tryz.func93,by kernel_rfl⟩
def c0 : Code := .skip
theorem body : Tryz.f93.body = some c0 := by kernel_rfl
def f (x0 : HV) : Option (Unit) :=
 some ()
theorem snd {x0 : HV}  {p : Unit} (h : f x0 = some p) : HC b w e 93 [x0] S (RR (.tup []) S) := by
 unfold f at h
 refine HCall.of_run at_.at_ body ?_
 show HR b w e 93 none [.code c0] ⟨[x0,z],[]⟩ S _
 cases h
 exact Zxd rfl (Zzq at_.at_ rfl (res0 rfl) ⟨rfl,rfl⟩)
end Y109
namespace Y94
theorem at_ : FnAt Tryz.prog 131 Tryz.f131 := ⟨Tryz.func131,by kernel_rfl⟩
def d0 := (Tryz.f131.body).getD .skip
def r1 := kT d0
def r4 := kT (kY d0)
def r7 := kT (kY (kY d0))
def r11 := kT (kW d0)
def c0 : Code := .seq (.region 0 r1 false) (.seq (.seq (.region 1 r4 false) (.cond (.tmp 4) (.seq (.region 2 r7 false) .ret) .skip)) (.seq (.region 3 r11 false) .ret))
theorem body : Tryz.f131.body = some c0 := by kernel_rfl
def f (x0 : Sl) (S : HS) : Option ((Sl) × HS) :=
 (if (Option.isNone (Sl.a x0)) = true then
 some (Sl.nil,S) else
 (letv (HS.lit S [] 1) fun p2 =>
 ((p2.2.rows x0 1).bind fun p3 =>
 ((p2.2.app (p2.1) p3 1).bind fun p4 =>
 some ((p4.1),(p4.2))))))
theorem snd {x0 : Sl}  {p : (Sl) × HS} (h : f x0 S = some p) : HC b w e 131 [(Sl.hv x0)] S (RR (Sl.hv p.1) p.2) := by
 unfold f at h
 refine HCall.of_run at_.at_ body ?_
 show HR b w e 131 none [.code c0] ⟨[(Sl.hv x0),z,z,z,z,z,z,z],[]⟩ S _
 refine qT rfl rfl rfl (qS 2 rfl (Zxa · (.const fun _ => .slNil none)) (rE ?_))
 dsimp only [w0,w1,w2,w3]
 refine qQ rfl (qT rfl rfl rfl (uM 3 rfl rfl (qS 4 rfl (Zaan · tu57 (.tmp rfl) (.inl ⟨rfl,rfl⟩)) (rE ?_))))
 dsimp only [w0,w1,w2,w3]
 rcases ifc h with ⟨hc1,h⟩ | ⟨hc1,h⟩
 ·refine Zxb rfl (.tmp rfl) hc1 (qT rfl rfl rfl (qS 2 rfl (Zxa · (.const fun _ => .slNil none)) (rE ?_)))
  cases h
  exact Zxl rfl at_.at_ rfl (res1 rfl rfl) ⟨rfl,rfl⟩
 ·obtain ⟨p2,hp2,h⟩ := leto h
  obtain ⟨p3,hp3,p4,hp4,h⟩ := bd2 h
  refine Zxc rfl (.tmp rfl) (bfalse hc1) (Zxd rfl (qT rfl rfl rfl (qS 5 rfl (Zxp (xs := []) el57 · rfl rfl (by decide) Evs.nil rfl rfl hp2) (uM 6 rfl rfl (qS 7 rfl (Zx1 (s := (p2.1)) (s1 := x0) el57 · rfl rfl ⟨_,tu57⟩ (.tmp rfl) (.tmp rfl) hp3 hp4) (uA 2 rfl rfl (rE ?_)))))))
  cases h
  exact Zxl rfl at_.at_ rfl (res1 rfl rfl) ⟨rfl,rfl⟩
end Y94
namespace Y62
theorem at_ : FnAt Tryz.prog 121 Tryz.f121 := ⟨Tryz.func121,by kernel_rfl⟩
def d0 := (Tryz.f121.body).getD .skip
def r1 := kT d0
def r4 := kT (kY d0)
def r7 := kT (kY (kY d0))
def r11 := kT (kW d0)
def c0 : Code := .seq (.region 0 r1 false) (.seq (.seq (.region 1 r4 false) (.cond (.tmp 4) (.seq (.region 2 r7 false) .ret) .skip)) (.seq (.region 3 r11 false) .ret))
theorem body : Tryz.f121.body = some c0 := by kernel_rfl
def f (x0 : HP) (S : HS) : Option ((Sl) × HS) :=
 (if (Option.isNone x0) = true then
 some (Sl.nil,S) else
 (x0.bind fun p2 =>
 ((S.ldSl (HA.fld p2 0)).bind fun p3 =>
 ((Y94.f p3 S).bind fun p4 =>
 some (p4.1,p4.2)))))
theorem snd {x0 : HP}  {p : (Sl) × HS} (h : f x0 S = some p) : HC b w e 121 [(.ptr x0)] S (RR (Sl.hv p.1) p.2) := by
 unfold f at h
 refine HCall.of_run at_.at_ body ?_
 show HR b w e 121 none [.code c0] ⟨[(.ptr x0),z,z,z,z,z,z,z,z,z],[]⟩ S _
 refine qT rfl rfl rfl (qS 2 rfl (Zxa · (.const fun _ => .slNil none)) (rE ?_))
 dsimp only [w0,w1,w2,w3]
 refine qQ rfl (qT rfl rfl rfl (uM 3 rfl rfl (qS 4 rfl (Zxt · Zah3 (.tmp rfl) (.inl ⟨rfl,rfl⟩)) (rE ?_))))
 dsimp only [w0,w1,w2,w3]
 rcases ifc h with ⟨hc1,h⟩ | ⟨hc1,h⟩
 ·refine Zxb rfl (.tmp rfl) hc1 (qT rfl rfl rfl (qS 2 rfl (Zxa · (.const fun _ => .slNil none)) (rE ?_)))
  cases h
  exact Zxl rfl at_.at_ rfl (res1 rfl rfl) ⟨rfl,rfl⟩
 ·obtain ⟨p2,hp2,p3,hp3,h⟩ := bd2 h
  refine Zxc rfl (.tmp rfl) (bfalse hc1) (Zxd rfl (qT rfl rfl rfl (uM 5 rfl rfl (uN 6 rfl rfl hp2 (uF 7 rfl Zaai (by decide) rfl rfl (uL 8 rfl sc57 rfl rfl (Zxj hp3) ?_))))))
  try dsimp only [w0,w1,w2,w3]
  obtain ⟨p4,hp4,h⟩ := bindo h
  refine uQ 9 rfl (.func _) (ev1 rfl) (HInv.static Y94.at_ Y94.body (Y94.snd  hp4)) (uA 2 rfl rfl (rE ?_))
  cases h
  exact Zxl rfl at_.at_ rfl (res1 rfl rfl) ⟨rfl,rfl⟩
end Y62
namespace Y59
theorem at_ : FnAt Tryz.prog 130 Tryz.f130 := ⟨Tryz.func130,by kernel_rfl⟩
def d0 := (Tryz.f130.body).getD .skip
def r1 := kT d0
def d4 := kX (kB d0)
def r5 := kT d4
def r13 := kT (kX (kW d4))
def r15 := kT (kZ (kY (kB d4)))
def r19 := kR (kW (kB d4))
def c4 : Code := .seq (.region 1 r5 false) (.seq (.cond (.tmp 8) .skip (.exit 0)) (.seq (.block 1 (.seq (.region 2 r13 false) (.seq (.region 3 r15 false) (.cond (.tmp 14) .ret .skip)))) (.region 4 r19 false)))
def c0 : Code := .seq (.region 0 r1 false) (.block 0 (.loop c4))
theorem body : Tryz.f130.body = some c0 := by kernel_rfl
def L0 (D : Dp) (H : Hd) (k : Nat) : Nat → HV → Sl → Int → Int → HS → Option ((Unit) × HS)
 | 0,_,_,_,_,_ => none
 | n + 1,y0,y5,y6,y7,S =>
  (if y7 < y6 then
  ((S.idx y5 y7 1).bind fun p4 =>
  ((S.ldS p4).bind fun p5 =>
  ((D H y0 [(.str p5)] S).bind fun p6 =>
  ((dB p6.1).bind fun p7 =>
  (if (!p7) = true then
  some ((),p6.2) else
  (L0 D H k n) y0 y5 y6 (w64 (y7 + 1)) p6.2))))) else
  some ((),S))
theorem L0_snd (hD : DS b w D) (hH : HT b w e H) : ∀ {n : Nat} ⦃y0 : HV⦄ ⦃y5 : Sl⦄ ⦃y6 : Int⦄ ⦃y7 : Int⦄ ⦃S : HS⦄ ⦃p : (Unit) × HS⦄ ⦃j q m F i a G B M O K A : HV⦄,L0 D H k n y0 y5 y6 y7 S = some p → HR b w e 130 none [.inLoop c4,.inBlock 0] ⟨[y0,j,q,m,F,(Sl.hv y5),(.int .i64 y6),(.int .i64 y7),i,a,G,B,M,O,K,A],[]⟩ S (RR (.tup []) p.2) := by
 intro n
 induction n with
 | zero => intro _ _ _ _ _ _ _ _ _ _ _ _ _ _ _ _ _ _ h; cases h
 | succ n ih =>
  intro y0 y5 y6 y7 S p j q m F i a G B M O K A h
  simp only [L0] at h
  refine Zxz (qT rfl rfl rfl (uB 8 rfl rfl rfl rfl (rE ?_)))
  dsimp only [w0,w1,w2,w3]
  refine qQ rfl ?_
  rcases ifc h with ⟨hc3,h⟩ | ⟨hc3,h⟩
  ·obtain ⟨p4,hp4,p5,hp5,h⟩ := bd2 h
   refine Zxb rfl (.tmp rfl) (decide_eq_true hc3) (Zxd rfl (qQ rfl (Zxo rfl (qT rfl rfl rfl (qS 9 rfl (oX (s := y5) · tu57 sz9 rfl rfl hp4) (uL 10 rfl sc9 rfl rfl (Zx4 hp5) (uA 4 rfl rfl (rE ?_))))))))
   dsimp only [w0,w1,w2,w3]
   obtain ⟨p6,hp6,p7,hp7,h⟩ := bd2 h
   refine qT rfl rfl rfl (uM 11 rfl rfl (uM 12 rfl rfl (uQ 13 rfl (.tmp rfl) (ev1 rfl) (hD _ _ hH _ _ _ _ _ hp6) ?_)))
   rw [Zaak hp7]
   refine qS 14 rfl (Zys · (.tmp rfl)) (rE ?_)
   dsimp only [w0,w1,w2,w3]
   rcases ifc h with ⟨hc8,h⟩ | ⟨hc8,h⟩
   ·cases h
    exact Zxb rfl (.tmp rfl) hc8 (Zxl rfl at_.at_ rfl (res0 rfl) ⟨rfl,rfl⟩)
   ·refine Zxc rfl (.tmp rfl) (bfalse hc8) (Zxd rfl (Zxf (qR rfl rfl (uC 15 rfl rfl rfl (uM 7 rfl rfl (rE ?_))))))
    dsimp only [w0,w1,w2,w3]
    exact ih h
  ·cases h
   exact Zxc rfl (.tmp rfl) (decide_eq_false hc3) (Zyh rfl rfl (Zzq at_.at_ rfl (res0 rfl) ⟨rfl,rfl⟩))
def f (D : Dp) (H : Hd) (k : Nat) (x0 : HV) (x1 : HP) (S : HS) : Option ((Unit) × HS) :=
 (x1.bind fun p1 =>
 ((S.ldSl p1).bind fun p2 =>
 L0 D H k k x0 p2 (Sl.len p2 : Int) 0 S))
theorem snd {x0 : HV} {x1 : HP} (hD : DS b w D) (hH : HT b w e H) {p : (Unit) × HS} (h : f D H k x0 x1 S = some p) : HC b w e 130 [x0,(.ptr x1)] S (RR (.tup []) p.2) := by
 unfold f at h
 refine HCall.of_run at_.at_ body ?_
 show HR b w e 130 none [.code c0] ⟨[x0,(.ptr x1),z,z,z,z,z,z,z,z,z,z,z,z,z,z],[]⟩ S _
 obtain ⟨p1,hp1,p2,hp2,h⟩ := bd2 h
 refine qT rfl rfl rfl (uL 5 rfl sc57 rfl hp1 (Zxj hp2) (qS 6 rfl (Zxg (q := Sl.a p2) (n := Sl.len p2) (z := Sl.cap p2) · rfl tu57 (.tmp rfl)) (qS 7 rfl (Zzj · (.int _ _)) (rE ?_))))
 dsimp only [w0,w1,w2,w3]
 refine Zxo rfl (Zye rfl ?_)
 try dsimp only [w0,w1,w2,w3]
 exact L0_snd hD hH h
end Y59
namespace Y85
theorem at_ : FnAt Tryz.prog 120 Tryz.f120 := ⟨Tryz.func120,by kernel_rfl⟩
def d0 := (Tryz.f120.body).getD .skip
def r1 := kT d0
def r3 := kT (kB d0)
def c0 : Code := .seq (.region 0 r1 false) (.seq (.region 1 r3 false) .ret)
theorem body : Tryz.f120.body = some c0 := by kernel_rfl
def f (x0 : Sl) (S : HS) : Option ((HV) × HS) :=
 (letv (HS.new S (.cells 1 [[(Sl.hv x0)]] true)) fun p1 =>
 some ((HV.fn (.func 130) [] [(.ptr (some (HA.cell0 S.next)))]),p1))
theorem snd {x0 : Sl}  {p : (HV) × HS} (h : f x0 S = some p) : HC b w e 120 [(Sl.hv x0)] S (RR p.1 p.2) := by
 unfold f at h
 refine HCall.of_run at_.at_ body ?_
 show HR b w e 120 none [.code c0] ⟨[(Sl.hv x0),z,z,z],[]⟩ S _
 obtain ⟨p1,hp1,h⟩ := leto h
 refine qT rfl rfl rfl (qS 1 rfl (Zyf · (.tmp rfl) (Yav _) rfl hp1) (qS 2 rfl (Zxa · (.const fun _ => .nilFn)) (rE ?_)))
 dsimp only [w0,w1,w2,w3]
 refine qT rfl rfl rfl (qS 3 rfl (Zzh · Evs.nil (ev1 rfl)) (uA 2 rfl rfl (rE ?_)))
 cases h
 exact Zxl rfl at_.at_ rfl (res1 rfl rfl) ⟨rfl,rfl⟩
end Y85
namespace Y67
theorem at_ : FnAt Tryz.prog 94 Tryz.f94 := ⟨Tryz.func94,by kernel_rfl⟩
def d0 := (Tryz.f94.body).getD .skip
def r1 := kT d0
def r3 := kT (kB d0)
def c0 : Code := .seq (.region 0 r1 false) (.seq (.region 1 r3 false) .ret)
theorem body : Tryz.f94.body = some c0 := by kernel_rfl
def f (x0 : HP) (S : HS) : Option ((HV) × HS) :=
 ((Y62.f x0 S).bind fun p1 =>
 ((Y85.f p1.1 p1.2).bind fun p2 =>
 some (p2.1,p2.2)))
theorem snd {x0 : HP}  {p : (HV) × HS} (h : f x0 S = some p) : HC b w e 94 [(.ptr x0)] S (RR p.1 p.2) := by
 unfold f at h
 refine HCall.of_run at_.at_ body ?_
 show HR b w e 94 none [.code c0] ⟨[(.ptr x0),z,z,z,z,z],[]⟩ S _
 refine qT rfl rfl rfl (qS 2 rfl (Zxa · (.const fun _ => .nilFn)) (rE ?_))
 dsimp only [w0,w1,w2,w3]
 obtain ⟨p1,hp1,h⟩ := bindo h
 refine qT rfl rfl rfl (uM 3 rfl rfl (uQ 4 rfl (.func _) (ev1 rfl) (HInv.static Y62.at_ Y62.body (Y62.snd  hp1)) ?_))
 obtain ⟨p2,hp2,h⟩ := bindo h
 refine uQ 5 rfl (.func _) (ev1 rfl) (HInv.static Y85.at_ Y85.body (Y85.snd  hp2)) (uA 2 rfl rfl (rE ?_))
 cases h
 exact Zxl rfl at_.at_ rfl (res1 rfl rfl) ⟨rfl,rfl⟩
end Y67
namespace Y60
theorem at_ : FnAt Tryz.prog 62 Tryz.f62 := ⟨Tryz.func62,by kernel_rfl⟩
def d0 := (Tryz.f62.body).getD .skip
def r1 := kT d0
def r4 := kT (kY d0)
def r7 := kT (kY (kY d0))
def r11 := kT (kW d0)
def c0 : Code := .seq (.region 0 r1 false) (.seq (.seq (.region 1 r4 false) (.cond (.tmp 6) (.seq (.region 2 r7 false) .ret) .skip)) (.seq (.region 3 r11 false) .ret))
theorem body : Tryz.f62.body = some c0 := by kernel_rfl
def f (x0 : HP) (x1 : Int) (S : HS) : Option ((HV) × HS) :=
 (if (Option.isNone x0) = true then
 some ((HV.fn (.func 93) [] []),S) else
 (x0.bind fun p2 =>
 ((S.ldM (HA.fld p2 2)).bind fun p3 =>
 ((S.look p3 (.int .i64 x1)).bind fun p4 =>
 ((dP (Option.getD p4 (.ptr none))).bind fun p5 =>
 ((Y67.f p5 S).bind fun p6 =>
 some (p6.1,p6.2)))))))
theorem snd {x0 : HP} {x1 : Int}  {p : (HV) × HS} (h : f x0 x1 S = some p) : HC b w e 62 [(.ptr x0),(.int .i64 x1)] S (RR p.1 p.2) := by
 unfold f at h
 refine HCall.of_run at_.at_ body ?_
 show HR b w e 62 none [.code c0] ⟨[(.ptr x0),(.int .i64 x1),z,z,z,z,z,z,z,z,z,z,z,z],[]⟩ S _
 refine qT rfl rfl rfl (qS 4 rfl (Zxa · (.const fun _ => .nilFn)) (rE ?_))
 dsimp only [w0,w1,w2,w3]
 refine qQ rfl (qT rfl rfl rfl (uM 5 rfl rfl (qS 6 rfl (Zxt · tu79 (.tmp rfl) (.inl ⟨rfl,rfl⟩)) (rE ?_))))
 dsimp only [w0,w1,w2,w3]
 rcases ifc h with ⟨hc1,h⟩ | ⟨hc1,h⟩
 ·refine Zxb rfl (.tmp rfl) hc1 (qT rfl rfl rfl (qS 4 rfl (Zxa · (.func _)) (rE ?_)))
  cases h
  exact Zxl rfl at_.at_ rfl (res1 rfl rfl) ⟨rfl,rfl⟩
 ·obtain ⟨p2,hp2,p3,hp3,h⟩ := bd2 h
  refine Zxc rfl (.tmp rfl) (bfalse hc1) (Zxd rfl (qT rfl rfl rfl (uM 7 rfl rfl (uN 8 rfl rfl hp2 (uF 9 rfl Zacz (by decide) rfl rfl (uL 10 rfl Zajn rfl rfl (Zaa8 hp3) ?_))))))
  try dsimp only [w0,w1,w2,w3]
  obtain ⟨p4,hp4,p5,hp5,p6,hp6,h⟩ := bd3 h
  refine uM 11 rfl rfl (qS 12 rfl (Zy9 · Zaed Zagc (fun β => .ptrNil) (Zabi tu3) (.tmp rfl) (.tmp rfl) hp4 (Zy3 hp5)) (uQ 13 rfl (.func _) (ev1 rfl) (HInv.static Y67.at_ Y67.body (Y67.snd  hp6)) (uA 4 rfl rfl (rE ?_))))
  cases h
  exact Zxl rfl at_.at_ rfl (res1 rfl rfl) ⟨rfl,rfl⟩
end Y60
namespace Y63
theorem at_ : FnAt Tryz.prog 63 Tryz.f63 := ⟨Tryz.func63,by kernel_rfl⟩
def d0 := (Tryz.f63.body).getD .skip
def r1 := kT d0
def d4 := kX (kB d0)
def r5 := kT d4
def r13 := kT (kX (kW d4))
def r15 := kT (kZ (kY (kB d4)))
def r19 := kR (kW (kB d4))
def c4 : Code := .seq (.region 1 r5 false) (.seq (.cond (.tmp 8) .skip (.exit 0)) (.seq (.block 1 (.seq (.region 2 r13 false) (.seq (.region 3 r15 false) (.cond (.tmp 14) .ret .skip)))) (.region 4 r19 false)))
def c0 : Code := .seq (.region 0 r1 false) (.block 0 (.loop c4))
theorem body : Tryz.f63.body = some c0 := by kernel_rfl
def L0 (D : Dp) (H : Hd) (k : Nat) : Nat → HV → Sl → Int → Int → HS → Option ((Unit) × HS)
 | 0,_,_,_,_,_ => none
 | n + 1,y0,y5,y6,y7,S =>
  (if y7 < y6 then
  ((S.idx y5 y7 1).bind fun p4 =>
  ((S.ldP p4).bind fun p5 =>
  ((D H y0 [(.ptr p5)] S).bind fun p6 =>
  ((dB p6.1).bind fun p7 =>
  (if (!p7) = true then
  some ((),p6.2) else
  (L0 D H k n) y0 y5 y6 (w64 (y7 + 1)) p6.2))))) else
  some ((),S))
theorem L0_snd (hD : DS b w D) (hH : HT b w e H) : ∀ {n : Nat} ⦃y0 : HV⦄ ⦃y5 : Sl⦄ ⦃y6 : Int⦄ ⦃y7 : Int⦄ ⦃S : HS⦄ ⦃p : (Unit) × HS⦄ ⦃j q m F i a G B M O K A : HV⦄,L0 D H k n y0 y5 y6 y7 S = some p → HR b w e 63 none [.inLoop c4,.inBlock 0] ⟨[y0,j,q,m,F,(Sl.hv y5),(.int .i64 y6),(.int .i64 y7),i,a,G,B,M,O,K,A],[]⟩ S (RR (.tup []) p.2) := by
 intro n
 induction n with
 | zero => intro _ _ _ _ _ _ _ _ _ _ _ _ _ _ _ _ _ _ h; cases h
 | succ n ih =>
  intro y0 y5 y6 y7 S p j q m F i a G B M O K A h
  simp only [L0] at h
  refine Zxz (qT rfl rfl rfl (uB 8 rfl rfl rfl rfl (rE ?_)))
  dsimp only [w0,w1,w2,w3]
  refine qQ rfl ?_
  rcases ifc h with ⟨hc3,h⟩ | ⟨hc3,h⟩
  ·obtain ⟨p4,hp4,p5,hp5,h⟩ := bd2 h
   refine Zxb rfl (.tmp rfl) (decide_eq_true hc3) (Zxd rfl (qQ rfl (Zxo rfl (qT rfl rfl rfl (qS 9 rfl (oX (s := y5) · tu109 sz36 rfl rfl hp4) (uL 10 rfl sc36 rfl rfl (Zx0 hp5) (uA 4 rfl rfl (rE ?_))))))))
   dsimp only [w0,w1,w2,w3]
   obtain ⟨p6,hp6,p7,hp7,h⟩ := bd2 h
   refine qT rfl rfl rfl (uM 11 rfl rfl (uM 12 rfl rfl (uQ 13 rfl (.tmp rfl) (ev1 rfl) (hD _ _ hH _ _ _ _ _ hp6) ?_)))
   rw [Zaak hp7]
   refine qS 14 rfl (Zys · (.tmp rfl)) (rE ?_)
   dsimp only [w0,w1,w2,w3]
   rcases ifc h with ⟨hc8,h⟩ | ⟨hc8,h⟩
   ·cases h
    exact Zxb rfl (.tmp rfl) hc8 (Zxl rfl at_.at_ rfl (res0 rfl) ⟨rfl,rfl⟩)
   ·refine Zxc rfl (.tmp rfl) (bfalse hc8) (Zxd rfl (Zxf (qR rfl rfl (uC 15 rfl rfl rfl (uM 7 rfl rfl (rE ?_))))))
    dsimp only [w0,w1,w2,w3]
    exact ih h
  ·cases h
   exact Zxc rfl (.tmp rfl) (decide_eq_false hc3) (Zyh rfl rfl (Zzq at_.at_ rfl (res0 rfl) ⟨rfl,rfl⟩))
def f (D : Dp) (H : Hd) (k : Nat) (x0 : HV) (x1 : HP) (S : HS) : Option ((Unit) × HS) :=
 (x1.bind fun p1 =>
 ((S.ldSl p1).bind fun p2 =>
 L0 D H k k x0 p2 (Sl.len p2 : Int) 0 S))
theorem snd {x0 : HV} {x1 : HP} (hD : DS b w D) (hH : HT b w e H) {p : (Unit) × HS} (h : f D H k x0 x1 S = some p) : HC b w e 63 [x0,(.ptr x1)] S (RR (.tup []) p.2) := by
 unfold f at h
 refine HCall.of_run at_.at_ body ?_
 show HR b w e 63 none [.code c0] ⟨[x0,(.ptr x1),z,z,z,z,z,z,z,z,z,z,z,z,z,z],[]⟩ S _
 obtain ⟨p1,hp1,p2,hp2,h⟩ := bd2 h
 refine qT rfl rfl rfl (uL 5 rfl sc109 rfl hp1 (Zxj hp2) (qS 6 rfl (Zxg (q := Sl.a p2) (n := Sl.len p2) (z := Sl.cap p2) · rfl tu109 (.tmp rfl)) (qS 7 rfl (Zzj · (.int _ _)) (rE ?_))))
 dsimp only [w0,w1,w2,w3]
 refine Zxo rfl (Zye rfl ?_)
 try dsimp only [w0,w1,w2,w3]
 exact L0_snd hD hH h
end Y63
namespace Y12
theorem at_ : FnAt Tryz.prog 22 Tryz.f22 := ⟨Tryz.func22,by kernel_rfl⟩
def d0 := (Tryz.f22.body).getD .skip
def r1 := kT d0
def r3 := kT (kB d0)
def d5 := kY (kB d0)
def r6 := kT d5
def r9 := kT (kY d5)
def r12 := kT (kY (kY d5))
def d13 := kZ (kZ (kB d5))
def r15 := kT (kA d13)
def r16 := kR (kZ d13)
def r19 := kT (kW (kB d0))
def c18 : Code := .seq (.region 7 r19 false) .ret
def c13 : Code := .block 1 (.seq (.region 5 r15 false) (.region 6 r16 false))
def c12 : Code := .region 4 r12 false
def c0 : Code := .seq (.region 0 r1 false) (.seq (.region 1 r3 false) (.seq (.seq (.region 2 r6 false) (.cond (.tmp 10) (.seq (.region 3 r9 false) (.block 0 (.rangeFunc (.tmp 16) #[17] c12 c13))) .skip)) c18))
theorem body : Tryz.f22.body = some c0 := by kernel_rfl
variable {y2 y5 : HP} {y17 : (List UInt8)}
def J0 (D : Dp) (H : Hd) (k : Nat) (l : Nat) (y2 : HP) (y5 : HP) (y17 : (List UInt8)) (S : HS) : Option (HV × HS) :=
 ((S.begin_ l).bind fun p9 =>
 (y2.bind fun p10 =>
 ((p9.ldP p10).bind fun p11 =>
 (p11.bind fun p12 =>
 ((p9.ldP (HA.fld p12 15)).bind fun p13 =>
 ((Y15.f D H k p13 y17 p9).bind fun p14 =>
 (y5.bind fun p15 =>
 ((p14.2.ldSl p15).bind fun p16 =>
 (letv (HS.lit p14.2 [[(.ptr p14.1.1)]] 1) fun p17 =>
 ((p17.2.rows (p17.1) 1).bind fun p18 =>
 ((p17.2.app p16 p18 1).bind fun p19 =>
 (y5.bind fun p20 =>
 ((p19.2.sets p20 [(Sl.hv (p19.1))]).bind fun p21 =>
 (HS.endr p21 l none))))))))))))))
theorem J0_snd {l : Nat} (hD : DS b w D) (hH : HT b w e H) {p : HV × HS} (h : J0 D H k l y2 y5 y17 S = some p) : HR b w e 22 (some l) [.code c12,.beginRound,.code c13] ⟨[Ga,j,(.ptr y2),m,F,(.ptr y5),N,Gh,i,a,G,B,M,O,K,A,C,(.str y17),I,J,L,Q,U,V,Z,c,d,g,r,Kd,Ke,Kf],[]⟩ S (RR p.1 p.2) := by
 unfold J0 at h
 refine qR rfl rfl (uA 6 rfl rfl (rE ?_))
 dsimp only [w0,w1,w2,w3]
 obtain ⟨p9,hp9,h⟩ := bindo h
 refine Zaaq hp9 ?_
 obtain ⟨p10,hp10,p11,hp11,p12,hp12,p13,hp13,h⟩ := bd4 h
 refine Zxo rfl (qT rfl rfl rfl (uL 19 rfl sc25 rfl hp10 (Zx0 hp11) (uN 20 rfl rfl hp12 (uF 21 rfl Zab1 (by decide) rfl rfl (uL 22 rfl sc75 rfl rfl (Zx0 hp13) ?_)))))
 try dsimp only [w0,w1,w2,w3]
 obtain ⟨p14,hp14,h⟩ := bindo h
 refine uM 23 rfl rfl (uQ 24 rfl (.func _) (ev2 rfl rfl) (HInv.static Y15.at_ Y15.body (Y15.snd hD hH hp14)) (uM 18 rfl rfl (qS 25 rfl (Zxr · (.tmp rfl) rfl) ?_)))
 try dsimp only [w0,w1,w2,w3]
 refine qS 26 rfl (Zxr · (.tmp rfl) rfl) (uA 7 rfl rfl (uA 8 rfl rfl (rE ?_)))
 dsimp only [w0,w1,w2,w3]
 obtain ⟨p15,hp15,p16,hp16,h⟩ := bd2 h
 obtain ⟨p17,hp17,h⟩ := leto h
 obtain ⟨p18,hp18,p19,hp19,h⟩ := bd2 h
 refine qR rfl rfl (uL 27 rfl sc109 rfl hp15 (Zxj hp16) (uM 28 rfl rfl (qS 29 rfl (Zxp (xs := [(.tmp 28)]) el109 · rfl rfl (by decide) (ev1 rfl) rfl rfl hp17) (qS 30 rfl (Zx1 (s := p16) (s1 := (p17.1)) el109 · rfl rfl ⟨_,tu109⟩ (.tmp rfl) (.tmp rfl) hp18 hp19) ?_))))
 try dsimp only [w0,w1,w2,w3]
 obtain ⟨p20,hp20,p21,hp21,h⟩ := bd2 h
 refine qN rfl (Zxk (v := (Sl.hv (p19.1))) · sz109 (.tmp rfl) hp20 (.tmp rfl) rfl hp21) (rE ?_)
 try dsimp only [w0,w1,w2,w3]
 refine Zxf ?_
 exact Zy6 h ⟨rfl,rfl⟩
def J1 (D : Dp) (H : Hd) (k : Nat) (y5 : HP) (ds : List Nat) (S : HS) : Option ((HV) × HS) :=
 ((S.leave ds).bind fun p29 =>
 some ((HV.fn (.func 63) [] [(.ptr y5)]),p29))
theorem J1_snd (hD : DS b w D) (hH : HT b w e H) {ds : List Nat} {p : (HV) × HS} (h : J1 D H k y5 ds S = some p) : HR b w e 22 none [.code c18] ⟨[Ga,j,q,m,F,(.ptr y5),N,Gh,i,a,G,B,M,O,K,A,C,E,I,J,L,Q,U,V,Z,c,d,g,r,Kd,Ke,Kf],ds⟩ S (RR p.1 p.2) := by
 unfold J1 at h
 refine qT rfl rfl rfl (qS 31 rfl (Zzh · Evs.nil (ev1 rfl)) (uA 4 rfl rfl (rE ?_)))
 dsimp only [w0,w1,w2,w3]
 obtain ⟨p29,hp29,h⟩ := bindo h
 cases h
 exact Zxl rfl at_.at_ hp29 (res1 rfl rfl) ⟨rfl,rfl⟩
def f (D : Dp) (H : Hd) (k : Nat) (x0 : HP) (x1 : Int) (S : HS) : Option ((HV) × HS) :=
 (letv (HS.new S (.cells 1 [[(.ptr x0)]] true)) fun p1 =>
 (letv (HS.new p1 (.cells 1 [[(Sl.hv Sl.nil)]] true)) fun p2 =>
 ((p2.ldP (HA.cell0 S.next)).bind fun p3 =>
 (if (!Option.isNone p3) = true then
 ((p2.ldP (HA.cell0 S.next)).bind fun p5 =>
 (p5.bind fun p6 =>
 ((p2.ldP (HA.fld p6 16)).bind fun p7 =>
 ((Y60.f p7 x1 p2).bind fun p8 =>
 ((D (Hd.set H (HS.next p8.2 + 1) fun vs T =>
 ((T.lp (HS.next p8.2 + 1)).bind fun u24 =>
 ((Zaad vs).bind fun ar22 =>
 ((dS ar22).bind fun p23 =>
 (J0 D H k (HS.next p8.2 + 1) (some (HA.cell0 S.next)) (some (HA.cell0 p1.next)) p23 T))))) p8.1 [.fn (.yield (HS.next p8.2 + 1)) [] []] (HS.new (HS.new p8.2 .defer) (.loop .ready none))).bind fun p25 =>
 ((p25.2.finish (HS.next p8.2 + 1)).bind fun p26 =>
 ((pcode p26.1).bind fun n27 =>
 (if n27 = 0 then
 J1 D H k (some (HA.cell0 p1.next)) (HS.next p8.2 :: []) p26.2 else
 none)))))))) else
 J1 D H k (some (HA.cell0 p1.next)) [] p2))))
theorem snd {x0 : HP} {x1 : Int} (hD : DS b w D) (hH : HT b w e H) {p : (HV) × HS} (h : f D H k x0 x1 S = some p) : HC b w e 22 [(.ptr x0),(.int .i64 x1)] S (RR p.1 p.2) := by
 unfold f at h
 refine HCall.of_run at_.at_ body ?_
 show HR b w e 22 none [.code c0] ⟨[(.ptr x0),(.int .i64 x1),z,z,z,z,z,z,z,z,z,z,z,z,z,z,z,z,z,z,z,z,z,z,z,z,z,z,z,z,z,z],[]⟩ S _
 obtain ⟨p1,hp1,h⟩ := leto h
 refine qT rfl rfl rfl (qS 2 rfl (Zyf · (.tmp rfl) (Yav _) rfl hp1) (qS 4 rfl (Zxa · (.const fun _ => .nilFn)) (rE ?_)))
 dsimp only [w0,w1,w2,w3]
 obtain ⟨p2,hp2,h⟩ := leto h
 refine qT rfl rfl rfl (qS 5 rfl (Zx9 · zi109 zr109 (by decide) rfl hp2) (rE ?_))
 dsimp only [w0,w1,w2,w3]
 obtain ⟨p3,hp3,h⟩ := bindo h
 refine qQ rfl (qT rfl rfl rfl (uL 9 rfl sc25 rfl rfl (Zx0 hp3) (qS 10 rfl (Zxt · tu25 (.tmp rfl) (.inr ⟨rfl,rfl⟩)) (rE ?_))))
 dsimp only [w0,w1,w2,w3]
 rcases ifc h with ⟨hc4,h⟩ | ⟨hc4,h⟩
 ·obtain ⟨p5,hp5,p6,hp6,p7,hp7,h⟩ := bd3 h
  refine Zxb rfl (.tmp rfl) hc4 (qT rfl rfl rfl (uL 11 rfl sc25 rfl rfl (Zx0 hp5) (uN 12 rfl rfl hp6 (uF 13 rfl Zafi (by decide) rfl rfl (uL 14 rfl sc79 rfl rfl (Zx0 hp7) ?_)))))
  try dsimp only [w0,w1,w2,w3]
  obtain ⟨p8,hp8,h⟩ := bindo h
  refine uM 15 rfl rfl (uQ 16 rfl (.func _) (ev2 rfl rfl) (HInv.static Y60.at_ Y60.body (Y60.snd  hp8)) (rE ?_))
  dsimp only [w0,w1,w2,w3]
  obtain ⟨p25,hp25,p26,hp26,h⟩ := bd2 h
  obtain ⟨n27,hn27,h⟩ := bindo h
  refine Zxo rfl ?_
  refine Zaa7 (D := D) (H := H) rfl (.tmp rfl) hD hH hp25 hp26 ?_ ?_
  ·intro β1 hle hLA vs T u T' hr
   obtain ⟨u24,hu24,hr⟩ := bindo hr
   obtain ⟨ar22,har22,hr⟩ := bindo hr
   obtain ⟨p23,hp23,hr⟩ := bindo hr
   rw [Zy7 har22]
   refine Zzy hLA hu24 rfl rfl ?_
   rw [Zaes hp23]
   simp only [HAct.params,List.set_cons_zero,List.set_cons_succ]
   exact J0_snd hD (hH.up hle) hr
  ·rcases ifc h with ⟨hc28,h⟩ | ⟨hc28,h⟩
   ·rw [Zabw hn27 hc28]
    simp only [Zyj,Zyk]
    refine Zxf ?_
    try dsimp only [w0,w1,w2,w3]
    exact J1_snd hD hH h
   ·cases h
 ·refine Zxc rfl (.tmp rfl) (bfalse hc4) (Zxd rfl ?_)
  try dsimp only [w0,w1,w2,w3]
  exact J1_snd hD hH h
end Y12
namespace Y117
theorem at_ : FnAt Tryz.prog 81 Tryz.f81 := ⟨Tryz.func81,by kernel_rfl⟩
def c0 : Code := .skip
theorem body : Tryz.f81.body = some c0 := by kernel_rfl
def f (x0 : HV) : Option (Unit) :=
 some ()
theorem snd {x0 : HV}  {p : Unit} (h : f x0 = some p) : HC b w e 81 [x0] S (RR (.tup []) S) := by
 unfold f at h
 refine HCall.of_run at_.at_ body ?_
 show HR b w e 81 none [.code c0] ⟨[x0,z],[]⟩ S _
 cases h
 exact Zxd rfl (Zzq at_.at_ rfl (res0 rfl) ⟨rfl,rfl⟩)
end Y117
namespace Y130
theorem at_ : FnAt Tryz.prog 83 Tryz.f83 := ⟨Tryz.func83,by kernel_rfl⟩
def d0 := (Tryz.f83.body).getD .skip
def r1 := kT d0
def r4 := kT (kY d0)
def r7 := kT (kY (kY d0))
def r11 := kT (kW d0)
def c0 : Code := .seq (.region 0 r1 false) (.seq (.seq (.region 1 r4 false) (.cond (.tmp 4) (.seq (.region 2 r7 false) .ret) .skip)) (.seq (.region 3 r11 false) .ret))
theorem body : Tryz.f83.body = some c0 := by kernel_rfl
def f (x0 : Sl) (S : HS) : Option ((Sl) × HS) :=
 (if (Option.isNone (Sl.a x0)) = true then
 some (Sl.nil,S) else
 (letv (HS.lit S [] 3) fun p2 =>
 ((p2.2.rows x0 3).bind fun p3 =>
 ((p2.2.app (p2.1) p3 3).bind fun p4 =>
 some ((p4.1),(p4.2))))))
theorem snd {x0 : Sl}  {p : (Sl) × HS} (h : f x0 S = some p) : HC b w e 83 [(Sl.hv x0)] S (RR (Sl.hv p.1) p.2) := by
 unfold f at h
 refine HCall.of_run at_.at_ body ?_
 show HR b w e 83 none [.code c0] ⟨[(Sl.hv x0),z,z,z,z,z,z,z],[]⟩ S _
 refine qT rfl rfl rfl (qS 2 rfl (Zxa · (.const fun _ => .slNil none)) (rE ?_))
 dsimp only [w0,w1,w2,w3]
 refine qQ rfl (qT rfl rfl rfl (uM 3 rfl rfl (qS 4 rfl (Zaan · tu87 (.tmp rfl) (.inl ⟨rfl,rfl⟩)) (rE ?_))))
 dsimp only [w0,w1,w2,w3]
 rcases ifc h with ⟨hc1,h⟩ | ⟨hc1,h⟩
 ·refine Zxb rfl (.tmp rfl) hc1 (qT rfl rfl rfl (qS 2 rfl (Zxa · (.const fun _ => .slNil none)) (rE ?_)))
  cases h
  exact Zxl rfl at_.at_ rfl (res1 rfl rfl) ⟨rfl,rfl⟩
 ·obtain ⟨p2,hp2,h⟩ := leto h
  obtain ⟨p3,hp3,p4,hp4,h⟩ := bd2 h
  refine Zxc rfl (.tmp rfl) (bfalse hc1) (Zxd rfl (qT rfl rfl rfl (qS 5 rfl (Zxp (xs := []) el87 · rfl rfl (by decide) Evs.nil rfl rfl hp2) (uM 6 rfl rfl (qS 7 rfl (Zx1 (s := (p2.1)) (s1 := x0) el87 · rfl rfl ⟨_,tu87⟩ (.tmp rfl) (.tmp rfl) hp3 hp4) (uA 2 rfl rfl (rE ?_)))))))
  cases h
  exact Zxl rfl at_.at_ rfl (res1 rfl rfl) ⟨rfl,rfl⟩
end Y130
namespace Y118
theorem at_ : FnAt Tryz.prog 113 Tryz.f113 := ⟨Tryz.func113,by kernel_rfl⟩
def d0 := (Tryz.f113.body).getD .skip
def r1 := kT d0
def d4 := kX (kB d0)
def r5 := kT d4
def r13 := kT (kX (kW d4))
def r15 := kT (kZ (kY (kB d4)))
def r19 := kR (kW (kB d4))
def c4 : Code := .seq (.region 1 r5 false) (.seq (.cond (.tmp 8) .skip (.exit 0)) (.seq (.block 1 (.seq (.region 2 r13 false) (.seq (.region 3 r15 false) (.cond (.tmp 14) .ret .skip)))) (.region 4 r19 false)))
def c0 : Code := .seq (.region 0 r1 false) (.block 0 (.loop c4))
theorem body : Tryz.f113.body = some c0 := by kernel_rfl
def L0 (D : Dp) (H : Hd) (k : Nat) : Nat → HV → Sl → Int → Int → HS → Option ((Unit) × HS)
 | 0,_,_,_,_,_ => none
 | n + 1,y0,y5,y6,y7,S =>
  (if y7 < y6 then
  ((S.idx y5 y7 3).bind fun p4 =>
  ((S.ldI .i64 (HA.fld p4 0)).bind fun p5 =>
  ((S.ldB (HA.fld p4 1)).bind fun p6 =>
  ((S.ldB (HA.fld p4 2)).bind fun p7 =>
  (letv (HS.new S (.cells 3 [[(.int .i64 0),(.bool false),(.bool false)]] true)) fun p8 =>
  ((p8.sets (HA.cell0 S.next) [(.int .i64 p5),(.bool p6),(.bool p7)]).bind fun p9 =>
  ((p9.ldI .i64 (HA.fld (HA.cell0 S.next) 0)).bind fun p10 =>
  ((p9.ldB (HA.fld (HA.cell0 S.next) 1)).bind fun p11 =>
  ((p9.ldB (HA.fld (HA.cell0 S.next) 2)).bind fun p12 =>
  ((D H y0 [(.agg [(.int .i64 p10),(.bool p11),(.bool p12)])] p9).bind fun p13 =>
  ((dB p13.1).bind fun p14 =>
  (if (!p14) = true then
  some ((),p13.2) else
  (L0 D H k n) y0 y5 y6 (w64 (y7 + 1)) p13.2)))))))))))) else
  some ((),S))
theorem L0_snd (hD : DS b w D) (hH : HT b w e H) : ∀ {n : Nat} ⦃y0 : HV⦄ ⦃y5 : Sl⦄ ⦃y6 : Int⦄ ⦃y7 : Int⦄ ⦃S : HS⦄ ⦃p : (Unit) × HS⦄ ⦃j q m F i a G B M O K A : HV⦄,L0 D H k n y0 y5 y6 y7 S = some p → HR b w e 113 none [.inLoop c4,.inBlock 0] ⟨[y0,j,q,m,F,(Sl.hv y5),(.int .i64 y6),(.int .i64 y7),i,a,G,B,M,O,K,A],[]⟩ S (RR (.tup []) p.2) := by
 intro n
 induction n with
 | zero => intro _ _ _ _ _ _ _ _ _ _ _ _ _ _ _ _ _ _ h; cases h
 | succ n ih =>
  intro y0 y5 y6 y7 S p j q m F i a G B M O K A h
  simp only [L0] at h
  refine Zxz (qT rfl rfl rfl (uB 8 rfl rfl rfl rfl (rE ?_)))
  dsimp only [w0,w1,w2,w3]
  refine qQ rfl ?_
  rcases ifc h with ⟨hc3,h⟩ | ⟨hc3,h⟩
  ·obtain ⟨p4,hp4,p5,hp5,p6,hp6,p7,hp7,h⟩ := bd4 h
   obtain ⟨p8,hp8,h⟩ := leto h
   obtain ⟨p9,hp9,h⟩ := bindo h
   refine Zxb rfl (.tmp rfl) (decide_eq_true hc3) (Zxd rfl (qQ rfl (Zxo rfl (qT rfl rfl rfl (qS 9 rfl (oX (s := y5) · tu87 sz62 rfl rfl hp4) (qS 10 rfl (Zyl (vs := [(.int .i64 p5),(.bool p6),(.bool p7)]) · ia62 (.tmp rfl) rfl ⟨Zxq hp5,Zya hp6,Zya hp7,trivial⟩ (by simp)) (qS 4 rfl (Zx9 · zi62 zr62 (by decide) rfl hp8) (qN rfl (Zxk (v := (.agg [(.int .i64 p5),(.bool p6),(.bool p7)])) · sz62 (.tmp rfl) rfl (.tmp rfl) rfl hp9) (rE ?_)))))))))
   dsimp only [w0,w1,w2,w3]
   obtain ⟨p10,hp10,p11,hp11,p12,hp12,p13,hp13,h⟩ := bd4 h
   obtain ⟨p14,hp14,h⟩ := bindo h
   refine qT rfl rfl rfl (uM 11 rfl rfl (qS 12 rfl (Zyl (vs := [(.int .i64 p10),(.bool p11),(.bool p12)]) · ia62 (.tmp rfl) rfl ⟨Zxq hp10,Zya hp11,Zya hp12,trivial⟩ (by simp)) (uQ 13 rfl (.tmp rfl) (ev1 rfl) (hD _ _ hH _ _ _ _ _ hp13) ?_)))
   rw [Zaak hp14]
   refine qS 14 rfl (Zys · (.tmp rfl)) (rE ?_)
   dsimp only [w0,w1,w2,w3]
   rcases ifc h with ⟨hc15,h⟩ | ⟨hc15,h⟩
   ·cases h
    exact Zxb rfl (.tmp rfl) hc15 (Zxl rfl at_.at_ rfl (res0 rfl) ⟨rfl,rfl⟩)
   ·refine Zxc rfl (.tmp rfl) (bfalse hc15) (Zxd rfl (Zxf (qR rfl rfl (uC 15 rfl rfl rfl (uM 7 rfl rfl (rE ?_))))))
    dsimp only [w0,w1,w2,w3]
    exact ih h
  ·cases h
   exact Zxc rfl (.tmp rfl) (decide_eq_false hc3) (Zyh rfl rfl (Zzq at_.at_ rfl (res0 rfl) ⟨rfl,rfl⟩))
def f (D : Dp) (H : Hd) (k : Nat) (x0 : HV) (x1 : HP) (S : HS) : Option ((Unit) × HS) :=
 (x1.bind fun p1 =>
 ((S.ldSl p1).bind fun p2 =>
 L0 D H k k x0 p2 (Sl.len p2 : Int) 0 S))
theorem snd {x0 : HV} {x1 : HP} (hD : DS b w D) (hH : HT b w e H) {p : (Unit) × HS} (h : f D H k x0 x1 S = some p) : HC b w e 113 [x0,(.ptr x1)] S (RR (.tup []) p.2) := by
 unfold f at h
 refine HCall.of_run at_.at_ body ?_
 show HR b w e 113 none [.code c0] ⟨[x0,(.ptr x1),z,z,z,z,z,z,z,z,z,z,z,z,z,z],[]⟩ S _
 obtain ⟨p1,hp1,p2,hp2,h⟩ := bd2 h
 refine qT rfl rfl rfl (uL 5 rfl sc87 rfl hp1 (Zxj hp2) (qS 6 rfl (Zxg (q := Sl.a p2) (n := Sl.len p2) (z := Sl.cap p2) · rfl tu87 (.tmp rfl)) (qS 7 rfl (Zzj · (.int _ _)) (rE ?_))))
 dsimp only [w0,w1,w2,w3]
 refine Zxo rfl (Zye rfl ?_)
 try dsimp only [w0,w1,w2,w3]
 exact L0_snd hD hH h
end Y118
namespace Y108
theorem at_ : FnAt Tryz.prog 82 Tryz.f82 := ⟨Tryz.func82,by kernel_rfl⟩
def d0 := (Tryz.f82.body).getD .skip
def r1 := kT d0
def r3 := kT (kB d0)
def c0 : Code := .seq (.region 0 r1 false) (.seq (.region 1 r3 false) .ret)
theorem body : Tryz.f82.body = some c0 := by kernel_rfl
def f (x0 : Sl) (S : HS) : Option ((HV) × HS) :=
 (letv (HS.new S (.cells 1 [[(Sl.hv x0)]] true)) fun p1 =>
 some ((HV.fn (.func 113) [] [(.ptr (some (HA.cell0 S.next)))]),p1))
theorem snd {x0 : Sl}  {p : (HV) × HS} (h : f x0 S = some p) : HC b w e 82 [(Sl.hv x0)] S (RR p.1 p.2) := by
 unfold f at h
 refine HCall.of_run at_.at_ body ?_
 show HR b w e 82 none [.code c0] ⟨[(Sl.hv x0),z,z,z],[]⟩ S _
 obtain ⟨p1,hp1,h⟩ := leto h
 refine qT rfl rfl rfl (qS 1 rfl (Zyf · (.tmp rfl) (Yav _) rfl hp1) (qS 2 rfl (Zxa · (.const fun _ => .nilFn)) (rE ?_)))
 dsimp only [w0,w1,w2,w3]
 refine qT rfl rfl rfl (qS 3 rfl (Zzh · Evs.nil (ev1 rfl)) (uA 2 rfl rfl (rE ?_)))
 cases h
 exact Zxl rfl at_.at_ rfl (res1 rfl rfl) ⟨rfl,rfl⟩
end Y108
namespace Y115
theorem at_ : FnAt Tryz.prog 54 Tryz.f54 := ⟨Tryz.func54,by kernel_rfl⟩
def d0 := (Tryz.f54.body).getD .skip
def r1 := kT d0
def r4 := kT (kY d0)
def r7 := kT (kY (kY d0))
def r11 := kT (kW d0)
def c0 : Code := .seq (.region 0 r1 false) (.seq (.seq (.region 1 r4 false) (.cond (.tmp 4) (.seq (.region 2 r7 false) .ret) .skip)) (.seq (.region 3 r11 false) .ret))
theorem body : Tryz.f54.body = some c0 := by kernel_rfl
def f (x0 : HP) (S : HS) : Option ((HV) × HS) :=
 (if (Option.isNone x0) = true then
 some ((HV.fn (.func 81) [] []),S) else
 (x0.bind fun p2 =>
 ((S.ldSl (HA.fld p2 2)).bind fun p3 =>
 ((Y130.f p3 S).bind fun p4 =>
 ((Y108.f p4.1 p4.2).bind fun p5 =>
 some (p5.1,p5.2))))))
theorem snd {x0 : HP}  {p : (HV) × HS} (h : f x0 S = some p) : HC b w e 54 [(.ptr x0)] S (RR p.1 p.2) := by
 unfold f at h
 refine HCall.of_run at_.at_ body ?_
 show HR b w e 54 none [.code c0] ⟨[(.ptr x0),z,z,z,z,z,z,z,z,z,z],[]⟩ S _
 refine qT rfl rfl rfl (qS 2 rfl (Zxa · (.const fun _ => .nilFn)) (rE ?_))
 dsimp only [w0,w1,w2,w3]
 refine qQ rfl (qT rfl rfl rfl (uM 3 rfl rfl (qS 4 rfl (Zxt · tu36 (.tmp rfl) (.inl ⟨rfl,rfl⟩)) (rE ?_))))
 dsimp only [w0,w1,w2,w3]
 rcases ifc h with ⟨hc1,h⟩ | ⟨hc1,h⟩
 ·refine Zxb rfl (.tmp rfl) hc1 (qT rfl rfl rfl (qS 2 rfl (Zxa · (.func _)) (rE ?_)))
  cases h
  exact Zxl rfl at_.at_ rfl (res1 rfl rfl) ⟨rfl,rfl⟩
 ·obtain ⟨p2,hp2,p3,hp3,h⟩ := bd2 h
  refine Zxc rfl (.tmp rfl) (bfalse hc1) (Zxd rfl (qT rfl rfl rfl (uM 5 rfl rfl (uN 6 rfl rfl hp2 (uF 7 rfl Zaav (by decide) rfl rfl (uL 8 rfl sc87 rfl rfl (Zxj hp3) ?_))))))
  try dsimp only [w0,w1,w2,w3]
  obtain ⟨p4,hp4,h⟩ := bindo h
  refine uQ 9 rfl (.func _) (ev1 rfl) (HInv.static Y130.at_ Y130.body (Y130.snd  hp4)) ?_
  obtain ⟨p5,hp5,h⟩ := bindo h
  refine uQ 10 rfl (.func _) (ev1 rfl) (HInv.static Y108.at_ Y108.body (Y108.snd  hp5)) (uA 2 rfl rfl (rE ?_))
  cases h
  exact Zxl rfl at_.at_ rfl (res1 rfl rfl) ⟨rfl,rfl⟩
end Y115
namespace Y91
theorem at_ : FnAt Tryz.prog 118 Tryz.f118 := ⟨Tryz.func118,by kernel_rfl⟩
def d0 := (Tryz.f118.body).getD .skip
def r1 := kT d0
def r4 := kT (kY d0)
def r7 := kT (kY (kY d0))
def r11 := kT (kW d0)
def c0 : Code := .seq (.region 0 r1 false) (.seq (.seq (.region 1 r4 false) (.cond (.tmp 4) (.seq (.region 2 r7 false) .ret) .skip)) (.seq (.region 3 r11 false) .ret))
theorem body : Tryz.f118.body = some c0 := by kernel_rfl
def f (x0 : Sl) (S : HS) : Option ((Sl) × HS) :=
 (if (Option.isNone (Sl.a x0)) = true then
 some (Sl.nil,S) else
 (letv (HS.lit S [] 1) fun p2 =>
 ((p2.2.rows x0 1).bind fun p3 =>
 ((p2.2.app (p2.1) p3 1).bind fun p4 =>
 some ((p4.1),(p4.2))))))
theorem snd {x0 : Sl}  {p : (Sl) × HS} (h : f x0 S = some p) : HC b w e 118 [(Sl.hv x0)] S (RR (Sl.hv p.1) p.2) := by
 unfold f at h
 refine HCall.of_run at_.at_ body ?_
 show HR b w e 118 none [.code c0] ⟨[(Sl.hv x0),z,z,z,z,z,z,z],[]⟩ S _
 refine qT rfl rfl rfl (qS 2 rfl (Zxa · (.const fun _ => .slNil none)) (rE ?_))
 dsimp only [w0,w1,w2,w3]
 refine qQ rfl (qT rfl rfl rfl (uM 3 rfl rfl (qS 4 rfl (Zaan · tu42 (.tmp rfl) (.inl ⟨rfl,rfl⟩)) (rE ?_))))
 dsimp only [w0,w1,w2,w3]
 rcases ifc h with ⟨hc1,h⟩ | ⟨hc1,h⟩
 ·refine Zxb rfl (.tmp rfl) hc1 (qT rfl rfl rfl (qS 2 rfl (Zxa · (.const fun _ => .slNil none)) (rE ?_)))
  cases h
  exact Zxl rfl at_.at_ rfl (res1 rfl rfl) ⟨rfl,rfl⟩
 ·obtain ⟨p2,hp2,h⟩ := leto h
  obtain ⟨p3,hp3,p4,hp4,h⟩ := bd2 h
  refine Zxc rfl (.tmp rfl) (bfalse hc1) (Zxd rfl (qT rfl rfl rfl (qS 5 rfl (Zxp (xs := []) el42 · rfl rfl (by decide) Evs.nil rfl rfl hp2) (uM 6 rfl rfl (qS 7 rfl (Zx1 (s := (p2.1)) (s1 := x0) el42 · rfl rfl ⟨_,tu42⟩ (.tmp rfl) (.tmp rfl) hp3 hp4) (uA 2 rfl rfl (rE ?_)))))))
  cases h
  exact Zxl rfl at_.at_ rfl (res1 rfl rfl) ⟨rfl,rfl⟩
end Y91
namespace Y84
theorem at_ : FnAt Tryz.prog 87 Tryz.f87 := ⟨Tryz.func87,by kernel_rfl⟩
def d0 := (Tryz.f87.body).getD .skip
def r1 := kT d0
def r4 := kT (kY d0)
def r7 := kT (kY (kY d0))
def r11 := kT (kW d0)
def c0 : Code := .seq (.region 0 r1 false) (.seq (.seq (.region 1 r4 false) (.cond (.tmp 4) (.seq (.region 2 r7 false) .ret) .skip)) (.seq (.region 3 r11 false) .ret))
theorem body : Tryz.f87.body = some c0 := by kernel_rfl
def f (x0 : HP) (S : HS) : Option ((Sl) × HS) :=
 (if (Option.isNone x0) = true then
 some (Sl.nil,S) else
 (x0.bind fun p2 =>
 ((S.ldSl (HA.fld p2 0)).bind fun p3 =>
 ((Y91.f p3 S).bind fun p4 =>
 some (p4.1,p4.2)))))
theorem snd {x0 : HP}  {p : (Sl) × HS} (h : f x0 S = some p) : HC b w e 87 [(.ptr x0)] S (RR (Sl.hv p.1) p.2) := by
 unfold f at h
 refine HCall.of_run at_.at_ body ?_
 show HR b w e 87 none [.code c0] ⟨[(.ptr x0),z,z,z,z,z,z,z,z,z],[]⟩ S _
 refine qT rfl rfl rfl (qS 2 rfl (Zxa · (.const fun _ => .slNil none)) (rE ?_))
 dsimp only [w0,w1,w2,w3]
 refine qQ rfl (qT rfl rfl rfl (uM 3 rfl rfl (qS 4 rfl (Zxt · tu96 (.tmp rfl) (.inl ⟨rfl,rfl⟩)) (rE ?_))))
 dsimp only [w0,w1,w2,w3]
 rcases ifc h with ⟨hc1,h⟩ | ⟨hc1,h⟩
 ·refine Zxb rfl (.tmp rfl) hc1 (qT rfl rfl rfl (qS 2 rfl (Zxa · (.const fun _ => .slNil none)) (rE ?_)))
  cases h
  exact Zxl rfl at_.at_ rfl (res1 rfl rfl) ⟨rfl,rfl⟩
 ·obtain ⟨p2,hp2,p3,hp3,h⟩ := bd2 h
  refine Zxc rfl (.tmp rfl) (bfalse hc1) (Zxd rfl (qT rfl rfl rfl (uM 5 rfl rfl (uN 6 rfl rfl hp2 (uF 7 rfl Zaau (by decide) rfl rfl (uL 8 rfl sc42 rfl rfl (Zxj hp3) ?_))))))
  try dsimp only [w0,w1,w2,w3]
  obtain ⟨p4,hp4,h⟩ := bindo h
  refine uQ 9 rfl (.func _) (ev1 rfl) (HInv.static Y91.at_ Y91.body (Y91.snd  hp4)) (uA 2 rfl rfl (rE ?_))
  cases h
  exact Zxl rfl at_.at_ rfl (res1 rfl rfl) ⟨rfl,rfl⟩
end Y84
namespace Y127
theorem at_ : FnAt Tryz.prog 89 Tryz.f89 := ⟨Tryz.func89,by kernel_rfl⟩
def d0 := (Tryz.f89.body).getD .skip
def r1 := kT d0
def r4 := kT (kY d0)
def r7 := kT (kY (kY d0))
def r11 := kT (kW d0)
def c0 : Code := .seq (.region 0 r1 false) (.seq (.seq (.region 1 r4 false) (.cond (.tmp 4) (.seq (.region 2 r7 false) .ret) .skip)) (.seq (.region 3 r11 false) .ret))
theorem body : Tryz.f89.body = some c0 := by kernel_rfl
def f (x0 : Sl) (S : HS) : Option ((Sl) × HS) :=
 (if (Option.isNone (Sl.a x0)) = true then
 some (Sl.nil,S) else
 (letv (HS.lit S [] 1) fun p2 =>
 ((p2.2.rows x0 1).bind fun p3 =>
 ((p2.2.app (p2.1) p3 1).bind fun p4 =>
 some ((p4.1),(p4.2))))))
theorem snd {x0 : Sl}  {p : (Sl) × HS} (h : f x0 S = some p) : HC b w e 89 [(Sl.hv x0)] S (RR (Sl.hv p.1) p.2) := by
 unfold f at h
 refine HCall.of_run at_.at_ body ?_
 show HR b w e 89 none [.code c0] ⟨[(Sl.hv x0),z,z,z,z,z,z,z],[]⟩ S _
 refine qT rfl rfl rfl (qS 2 rfl (Zxa · (.const fun _ => .slNil none)) (rE ?_))
 dsimp only [w0,w1,w2,w3]
 refine qQ rfl (qT rfl rfl rfl (uM 3 rfl rfl (qS 4 rfl (Zaan · Zac7 (.tmp rfl) (.inl ⟨rfl,rfl⟩)) (rE ?_))))
 dsimp only [w0,w1,w2,w3]
 rcases ifc h with ⟨hc1,h⟩ | ⟨hc1,h⟩
 ·refine Zxb rfl (.tmp rfl) hc1 (qT rfl rfl rfl (qS 2 rfl (Zxa · (.const fun _ => .slNil none)) (rE ?_)))
  cases h
  exact Zxl rfl at_.at_ rfl (res1 rfl rfl) ⟨rfl,rfl⟩
 ·obtain ⟨p2,hp2,h⟩ := leto h
  obtain ⟨p3,hp3,p4,hp4,h⟩ := bd2 h
  refine Zxc rfl (.tmp rfl) (bfalse hc1) (Zxd rfl (qT rfl rfl rfl (qS 5 rfl (Zxp (xs := []) el144 · rfl rfl (by decide) Evs.nil rfl rfl hp2) (uM 6 rfl rfl (qS 7 rfl (Zx1 (s := (p2.1)) (s1 := x0) el144 · rfl rfl ⟨_,Zac7⟩ (.tmp rfl) (.tmp rfl) hp3 hp4) (uA 2 rfl rfl (rE ?_)))))))
  cases h
  exact Zxl rfl at_.at_ rfl (res1 rfl rfl) ⟨rfl,rfl⟩
end Y127
namespace Y131
theorem at_ : FnAt Tryz.prog 88 Tryz.f88 := ⟨Tryz.func88,by kernel_rfl⟩
def d0 := (Tryz.f88.body).getD .skip
def r1 := kT d0
def d4 := kX (kB d0)
def r6 := kT (kA d4)
def d8 := kY (kA d4)
def r9 := kT d8
def d12 := kX (kB d8)
def r13 := kT d12
def r21 := kT (kX (kW d12))
def d22 := kZ (kY (kB d12))
def r23 := kT d22
def r25 := kT (kB d22)
def r27 := kR (kW (kB d12))
def d28 := kW (kA d4)
def r30 := kT (kA d28)
def r35 := kT (kB d28)
def d37 := kY (kB d28)
def r38 := kT d37
def d41 := kX (kB d37)
def r42 := kT d41
def r50 := kT (kX (kW d41))
def d51 := kZ (kY (kB d41))
def r52 := kT d51
def r54 := kT (kB d51)
def r56 := kR (kW (kB d41))
def r58 := kT (kW (kB d28))
def c57 : Code := .seq (.region 16 r58 false) (.cond (.tmp 74) .ret .skip)
def c56 : Code := .region 15 r56 false
def c53 : Code := .cond (.tmp 64) (.region 14 r54 false) .skip
def c41 : Code := .seq (.region 11 r42 false) (.seq (.cond (.tmp 51) .skip (.exit 4)) (.seq (.block 5 (.seq (.region 12 r50 false) (.seq (.region 13 r52 false) c53))) c56))
def c28 : Code := .seq (.seq (.region 8 r30 false) (.cond (.tmp 41) .ret .skip)) (.seq (.region 9 r35 false) (.seq (.seq (.region 10 r38 false) (.block 4 (.loop c41))) c57))
def c27 : Code := .region 7 r27 false
def c24 : Code := .cond (.tmp 37) (.region 6 r25 false) .skip
def c12 : Code := .seq (.region 3 r13 false) (.seq (.cond (.tmp 15) .skip (.exit 2)) (.seq (.block 3 (.seq (.region 4 r21 false) (.seq (.region 5 r23 true) c24))) c27))
def c4 : Code := .block 1 (.seq (.region 1 r6 false) (.seq (.seq (.region 2 r9 false) (.block 2 (.loop c12))) c28))
def c0 : Code := .seq (.region 0 r1 false) (.block 0 (.loop c4))
theorem body : Tryz.f88.body = some c0 := by kernel_rfl
variable {y0 : HV} {y3 y9 y12 y48 : Sl} {y4 y5 y7 y8 y13 y14 y49 y50 : Int} {y37 y64 : Bool}
def J3 (D : Dp) (H : Hd) (k : Nat) (rec0 : HV → Sl → Int → Sl → Int → Int → HS → Option ((Unit) × HS)) (rec1 : HV → Sl → HS → Option ((Unit) × HS)) (y0 : HV) (y3 : Sl) (y4 : Int) (y12 : Sl) (y13 : Int) (y14 : Int) (S : HS) : Option ((Unit) × HS) :=
 rec0 y0 y3 y4 y12 y13 (w64 (y14 + 1)) S
theorem J3_snd {rec0 : HV → Sl → Int → Sl → Int → Int → HS → Option ((Unit) × HS)} {rec1 : HV → Sl → HS → Option ((Unit) × HS)} (hD : DS b w D) (hH : HT b w e H) (hrec0 : ∀ ⦃y0 : HV⦄ ⦃y3 : Sl⦄ ⦃y4 : Int⦄ ⦃y12 : Sl⦄ ⦃y13 : Int⦄ ⦃y14 : Int⦄ ⦃S : HS⦄ ⦃p : (Unit) × HS⦄ ⦃j q o N Gh i a G B A C E I J L Q U V Z c d g r Kd Ke Kf Kg Kh Ki Kj Kk Kl Km Kn Ko Kp Kq Kr Ks Kt Ku Kv Kw Kx Ky Kz Ma Mb Mc Md Me Mf Mg Mh Mi Mj Mk Ml Mm Mn Mo Mp Mq Mr Ms Mt Mu Mv Mw : HV⦄,rec0 y0 y3 y4 y12 y13 y14 S = some p → HR b w e 88 none [.inLoop c12,.inBlock 2,.code c28,.inBlock 1,.inLoop c4,.inBlock 0] ⟨[y0,j,q,(Sl.hv y3),(.int .i64 y4),o,N,Gh,i,a,G,B,(Sl.hv y12),(.int .i64 y13),(.int .i64 y14),A,C,E,I,J,L,Q,U,V,Z,c,d,g,r,Kd,Ke,Kf,Kg,Kh,Ki,Kj,Kk,Kl,Km,Kn,Ko,Kp,Kq,Kr,Ks,Kt,Ku,Kv,Kw,Kx,Ky,Kz,Ma,Mb,Mc,Md,Me,Mf,Mg,Mh,Mi,Mj,Mk,Ml,Mm,Mn,Mo,Mp,Mq,Mr,Ms,Mt,Mu,Mv,Mw],[]⟩ S (RR (.tup []) p.2)) (hrec1 : ∀ ⦃y0 : HV⦄ ⦃y3 : Sl⦄ ⦃S : HS⦄ ⦃p : (Unit) × HS⦄ ⦃j q F o N Gh i a G B M O K A C E I J L Q U V Z c d g r Kd Ke Kf Kg Kh Ki Kj Kk Kl Km Kn Ko Kp Kq Kr Ks Kt Ku Kv Kw Kx Ky Kz Ma Mb Mc Md Me Mf Mg Mh Mi Mj Mk Ml Mm Mn Mo Mp Mq Mr Ms Mt Mu Mv Mw : HV⦄,rec1 y0 y3 S = some p → HR b w e 88 none [.inLoop c4,.inBlock 0] ⟨[y0,j,q,(Sl.hv y3),F,o,N,Gh,i,a,G,B,M,O,K,A,C,E,I,J,L,Q,U,V,Z,c,d,g,r,Kd,Ke,Kf,Kg,Kh,Ki,Kj,Kk,Kl,Km,Kn,Ko,Kp,Kq,Kr,Ks,Kt,Ku,Kv,Kw,Kx,Ky,Kz,Ma,Mb,Mc,Md,Me,Mf,Mg,Mh,Mi,Mj,Mk,Ml,Mm,Mn,Mo,Mp,Mq,Mr,Ms,Mt,Mu,Mv,Mw],[]⟩ S (RR (.tup []) p.2)) {p : (Unit) × HS} (h : J3 D H k rec0 rec1 y0 y3 y4 y12 y13 y14 S = some p) : HR b w e 88 none [.code c27,.inLoop c12,.inBlock 2,.code c28,.inBlock 1,.inLoop c4,.inBlock 0] ⟨[y0,j,q,(Sl.hv y3),(.int .i64 y4),o,N,Gh,i,a,G,B,(Sl.hv y12),(.int .i64 y13),(.int .i64 y14),A,C,E,I,J,L,Q,U,V,Z,c,d,g,r,Kd,Ke,Kf,Kg,Kh,Ki,Kj,Kk,Kl,Km,Kn,Ko,Kp,Kq,Kr,Ks,Kt,Ku,Kv,Kw,Kx,Ky,Kz,Ma,Mb,Mc,Md,Me,Mf,Mg,Mh,Mi,Mj,Mk,Ml,Mm,Mn,Mo,Mp,Mq,Mr,Ms,Mt,Mu,Mv,Mw],[]⟩ S (RR (.tup []) p.2) := by
 unfold J3 at h
 refine qR rfl rfl (uC 39 rfl rfl rfl (uM 14 rfl rfl (rE ?_)))
 dsimp only [w0,w1,w2,w3]
 exact hrec0 h
def J2 (D : Dp) (H : Hd) (k : Nat) (rec0 : HV → Sl → Int → Sl → Int → Int → HS → Option ((Unit) × HS)) (rec1 : HV → Sl → HS → Option ((Unit) × HS)) (y0 : HV) (y3 : Sl) (y4 : Int) (y5 : Int) (y12 : Sl) (y13 : Int) (y14 : Int) (y37 : Bool) (S : HS) : Option ((Unit) × HS) :=
 (if y37 = true then
 J3 D H k rec0 rec1 y0 y3 y5 y12 y13 y14 S else
 J3 D H k rec0 rec1 y0 y3 y4 y12 y13 y14 S)
theorem J2_snd {rec0 : HV → Sl → Int → Sl → Int → Int → HS → Option ((Unit) × HS)} {rec1 : HV → Sl → HS → Option ((Unit) × HS)} (hD : DS b w D) (hH : HT b w e H) (hrec0 : ∀ ⦃y0 : HV⦄ ⦃y3 : Sl⦄ ⦃y4 : Int⦄ ⦃y12 : Sl⦄ ⦃y13 : Int⦄ ⦃y14 : Int⦄ ⦃S : HS⦄ ⦃p : (Unit) × HS⦄ ⦃j q o N Gh i a G B A C E I J L Q U V Z c d g r Kd Ke Kf Kg Kh Ki Kj Kk Kl Km Kn Ko Kp Kq Kr Ks Kt Ku Kv Kw Kx Ky Kz Ma Mb Mc Md Me Mf Mg Mh Mi Mj Mk Ml Mm Mn Mo Mp Mq Mr Ms Mt Mu Mv Mw : HV⦄,rec0 y0 y3 y4 y12 y13 y14 S = some p → HR b w e 88 none [.inLoop c12,.inBlock 2,.code c28,.inBlock 1,.inLoop c4,.inBlock 0] ⟨[y0,j,q,(Sl.hv y3),(.int .i64 y4),o,N,Gh,i,a,G,B,(Sl.hv y12),(.int .i64 y13),(.int .i64 y14),A,C,E,I,J,L,Q,U,V,Z,c,d,g,r,Kd,Ke,Kf,Kg,Kh,Ki,Kj,Kk,Kl,Km,Kn,Ko,Kp,Kq,Kr,Ks,Kt,Ku,Kv,Kw,Kx,Ky,Kz,Ma,Mb,Mc,Md,Me,Mf,Mg,Mh,Mi,Mj,Mk,Ml,Mm,Mn,Mo,Mp,Mq,Mr,Ms,Mt,Mu,Mv,Mw],[]⟩ S (RR (.tup []) p.2)) (hrec1 : ∀ ⦃y0 : HV⦄ ⦃y3 : Sl⦄ ⦃S : HS⦄ ⦃p : (Unit) × HS⦄ ⦃j q F o N Gh i a G B M O K A C E I J L Q U V Z c d g r Kd Ke Kf Kg Kh Ki Kj Kk Kl Km Kn Ko Kp Kq Kr Ks Kt Ku Kv Kw Kx Ky Kz Ma Mb Mc Md Me Mf Mg Mh Mi Mj Mk Ml Mm Mn Mo Mp Mq Mr Ms Mt Mu Mv Mw : HV⦄,rec1 y0 y3 S = some p → HR b w e 88 none [.inLoop c4,.inBlock 0] ⟨[y0,j,q,(Sl.hv y3),F,o,N,Gh,i,a,G,B,M,O,K,A,C,E,I,J,L,Q,U,V,Z,c,d,g,r,Kd,Ke,Kf,Kg,Kh,Ki,Kj,Kk,Kl,Km,Kn,Ko,Kp,Kq,Kr,Ks,Kt,Ku,Kv,Kw,Kx,Ky,Kz,Ma,Mb,Mc,Md,Me,Mf,Mg,Mh,Mi,Mj,Mk,Ml,Mm,Mn,Mo,Mp,Mq,Mr,Ms,Mt,Mu,Mv,Mw],[]⟩ S (RR (.tup []) p.2)) {p : (Unit) × HS} (h : J2 D H k rec0 rec1 y0 y3 y4 y5 y12 y13 y14 y37 S = some p) : HR b w e 88 none [.code c24,.inBlock 3,.code c27,.inLoop c12,.inBlock 2,.code c28,.inBlock 1,.inLoop c4,.inBlock 0] ⟨[y0,j,q,(Sl.hv y3),(.int .i64 y4),(.int .i64 y5),N,Gh,i,a,G,B,(Sl.hv y12),(.int .i64 y13),(.int .i64 y14),A,C,E,I,J,L,Q,U,V,Z,c,d,g,r,Kd,Ke,Kf,Kg,Kh,Ki,Kj,Kk,(.bool y37),Km,Kn,Ko,Kp,Kq,Kr,Ks,Kt,Ku,Kv,Kw,Kx,Ky,Kz,Ma,Mb,Mc,Md,Me,Mf,Mg,Mh,Mi,Mj,Mk,Ml,Mm,Mn,Mo,Mp,Mq,Mr,Ms,Mt,Mu,Mv,Mw],[]⟩ S (RR (.tup []) p.2) := by
 unfold J2 at h
 rcases ifc h with ⟨hc9,h⟩ | ⟨hc9,h⟩
 ·refine Zxb rfl (.tmp rfl) hc9 (qR rfl rfl (uM 38 rfl rfl (uA 4 rfl rfl (rE ?_))))
  dsimp only [w0,w1,w2,w3]
  refine Zxf ?_
  try dsimp only [w0,w1,w2,w3]
  exact J3_snd hD hH hrec0 hrec1 h
 ·refine Zxc rfl (.tmp rfl) (bfalse hc9) (Zxd rfl (Zxf ?_))
  try dsimp only [w0,w1,w2,w3]
  exact J3_snd hD hH hrec0 hrec1 h
def J6 (D : Dp) (H : Hd) (k : Nat) (rec0 : HV → Sl → Int → Sl → Int → Int → HS → Option ((Unit) × HS)) (rec1 : HV → Sl → HS → Option ((Unit) × HS)) (y0 : HV) (y3 : Sl) (y7 : Int) (y48 : Sl) (y49 : Int) (y50 : Int) (S : HS) : Option ((Unit) × HS) :=
 rec0 y0 y3 y7 y48 y49 (w64 (y50 + 1)) S
theorem J6_snd {rec0 : HV → Sl → Int → Sl → Int → Int → HS → Option ((Unit) × HS)} {rec1 : HV → Sl → HS → Option ((Unit) × HS)} (hD : DS b w D) (hH : HT b w e H) (hrec0 : ∀ ⦃y0 : HV⦄ ⦃y3 : Sl⦄ ⦃y7 : Int⦄ ⦃y48 : Sl⦄ ⦃y49 : Int⦄ ⦃y50 : Int⦄ ⦃S : HS⦄ ⦃p : (Unit) × HS⦄ ⦃j q F o N i a G B M O K A C E I J L Q U V Z c d g r Kd Ke Kf Kg Kh Ki Kj Kk Kl Km Kn Ko Kp Kq Kr Ks Kt Ku Kv Kz Ma Mb Mc Md Me Mf Mg Mh Mi Mj Mk Ml Mm Mn Mo Mp Mq Mr Ms Mt Mu Mv Mw : HV⦄,rec0 y0 y3 y7 y48 y49 y50 S = some p → HR b w e 88 none [.inLoop c41,.inBlock 4,.code c57,.inBlock 1,.inLoop c4,.inBlock 0] ⟨[y0,j,q,(Sl.hv y3),F,o,N,(.int .i64 y7),i,a,G,B,M,O,K,A,C,E,I,J,L,Q,U,V,Z,c,d,g,r,Kd,Ke,Kf,Kg,Kh,Ki,Kj,Kk,Kl,Km,Kn,Ko,Kp,Kq,Kr,Ks,Kt,Ku,Kv,(Sl.hv y48),(.int .i64 y49),(.int .i64 y50),Kz,Ma,Mb,Mc,Md,Me,Mf,Mg,Mh,Mi,Mj,Mk,Ml,Mm,Mn,Mo,Mp,Mq,Mr,Ms,Mt,Mu,Mv,Mw],[]⟩ S (RR (.tup []) p.2)) (hrec1 : ∀ ⦃y0 : HV⦄ ⦃y3 : Sl⦄ ⦃S : HS⦄ ⦃p : (Unit) × HS⦄ ⦃j q F o N Gh i a G B M O K A C E I J L Q U V Z c d g r Kd Ke Kf Kg Kh Ki Kj Kk Kl Km Kn Ko Kp Kq Kr Ks Kt Ku Kv Kw Kx Ky Kz Ma Mb Mc Md Me Mf Mg Mh Mi Mj Mk Ml Mm Mn Mo Mp Mq Mr Ms Mt Mu Mv Mw : HV⦄,rec1 y0 y3 S = some p → HR b w e 88 none [.inLoop c4,.inBlock 0] ⟨[y0,j,q,(Sl.hv y3),F,o,N,Gh,i,a,G,B,M,O,K,A,C,E,I,J,L,Q,U,V,Z,c,d,g,r,Kd,Ke,Kf,Kg,Kh,Ki,Kj,Kk,Kl,Km,Kn,Ko,Kp,Kq,Kr,Ks,Kt,Ku,Kv,Kw,Kx,Ky,Kz,Ma,Mb,Mc,Md,Me,Mf,Mg,Mh,Mi,Mj,Mk,Ml,Mm,Mn,Mo,Mp,Mq,Mr,Ms,Mt,Mu,Mv,Mw],[]⟩ S (RR (.tup []) p.2)) {p : (Unit) × HS} (h : J6 D H k rec0 rec1 y0 y3 y7 y48 y49 y50 S = some p) : HR b w e 88 none [.code c56,.inLoop c41,.inBlock 4,.code c57,.inBlock 1,.inLoop c4,.inBlock 0] ⟨[y0,j,q,(Sl.hv y3),F,o,N,(.int .i64 y7),i,a,G,B,M,O,K,A,C,E,I,J,L,Q,U,V,Z,c,d,g,r,Kd,Ke,Kf,Kg,Kh,Ki,Kj,Kk,Kl,Km,Kn,Ko,Kp,Kq,Kr,Ks,Kt,Ku,Kv,(Sl.hv y48),(.int .i64 y49),(.int .i64 y50),Kz,Ma,Mb,Mc,Md,Me,Mf,Mg,Mh,Mi,Mj,Mk,Ml,Mm,Mn,Mo,Mp,Mq,Mr,Ms,Mt,Mu,Mv,Mw],[]⟩ S (RR (.tup []) p.2) := by
 unfold J6 at h
 refine qR rfl rfl (uC 70 rfl rfl rfl (uM 50 rfl rfl (rE ?_)))
 dsimp only [w0,w1,w2,w3]
 exact hrec0 h
def J5 (D : Dp) (H : Hd) (k : Nat) (rec0 : HV → Sl → Int → Sl → Int → Int → HS → Option ((Unit) × HS)) (rec1 : HV → Sl → HS → Option ((Unit) × HS)) (y0 : HV) (y3 : Sl) (y7 : Int) (y8 : Int) (y9 : Sl) (y48 : Sl) (y49 : Int) (y50 : Int) (y64 : Bool) (S : HS) : Option ((Unit) × HS) :=
 (if y64 = true then
 ((S.cut y9 1 (Sl.len y9 : Int) 1).bind fun p28 =>
 ((S.idx y3 y8 1).bind fun p29 =>
 ((S.sets p29 [(Sl.hv p28)]).bind fun p30 =>
 J6 D H k rec0 rec1 y0 y3 y7 y48 y49 y50 p30))) else
 J6 D H k rec0 rec1 y0 y3 y7 y48 y49 y50 S)
theorem J5_snd {rec0 : HV → Sl → Int → Sl → Int → Int → HS → Option ((Unit) × HS)} {rec1 : HV → Sl → HS → Option ((Unit) × HS)} (hD : DS b w D) (hH : HT b w e H) (hrec0 : ∀ ⦃y0 : HV⦄ ⦃y3 : Sl⦄ ⦃y7 : Int⦄ ⦃y48 : Sl⦄ ⦃y49 : Int⦄ ⦃y50 : Int⦄ ⦃S : HS⦄ ⦃p : (Unit) × HS⦄ ⦃j q F o N i a G B M O K A C E I J L Q U V Z c d g r Kd Ke Kf Kg Kh Ki Kj Kk Kl Km Kn Ko Kp Kq Kr Ks Kt Ku Kv Kz Ma Mb Mc Md Me Mf Mg Mh Mi Mj Mk Ml Mm Mn Mo Mp Mq Mr Ms Mt Mu Mv Mw : HV⦄,rec0 y0 y3 y7 y48 y49 y50 S = some p → HR b w e 88 none [.inLoop c41,.inBlock 4,.code c57,.inBlock 1,.inLoop c4,.inBlock 0] ⟨[y0,j,q,(Sl.hv y3),F,o,N,(.int .i64 y7),i,a,G,B,M,O,K,A,C,E,I,J,L,Q,U,V,Z,c,d,g,r,Kd,Ke,Kf,Kg,Kh,Ki,Kj,Kk,Kl,Km,Kn,Ko,Kp,Kq,Kr,Ks,Kt,Ku,Kv,(Sl.hv y48),(.int .i64 y49),(.int .i64 y50),Kz,Ma,Mb,Mc,Md,Me,Mf,Mg,Mh,Mi,Mj,Mk,Ml,Mm,Mn,Mo,Mp,Mq,Mr,Ms,Mt,Mu,Mv,Mw],[]⟩ S (RR (.tup []) p.2)) (hrec1 : ∀ ⦃y0 : HV⦄ ⦃y3 : Sl⦄ ⦃S : HS⦄ ⦃p : (Unit) × HS⦄ ⦃j q F o N Gh i a G B M O K A C E I J L Q U V Z c d g r Kd Ke Kf Kg Kh Ki Kj Kk Kl Km Kn Ko Kp Kq Kr Ks Kt Ku Kv Kw Kx Ky Kz Ma Mb Mc Md Me Mf Mg Mh Mi Mj Mk Ml Mm Mn Mo Mp Mq Mr Ms Mt Mu Mv Mw : HV⦄,rec1 y0 y3 S = some p → HR b w e 88 none [.inLoop c4,.inBlock 0] ⟨[y0,j,q,(Sl.hv y3),F,o,N,Gh,i,a,G,B,M,O,K,A,C,E,I,J,L,Q,U,V,Z,c,d,g,r,Kd,Ke,Kf,Kg,Kh,Ki,Kj,Kk,Kl,Km,Kn,Ko,Kp,Kq,Kr,Ks,Kt,Ku,Kv,Kw,Kx,Ky,Kz,Ma,Mb,Mc,Md,Me,Mf,Mg,Mh,Mi,Mj,Mk,Ml,Mm,Mn,Mo,Mp,Mq,Mr,Ms,Mt,Mu,Mv,Mw],[]⟩ S (RR (.tup []) p.2)) {p : (Unit) × HS} (h : J5 D H k rec0 rec1 y0 y3 y7 y8 y9 y48 y49 y50 y64 S = some p) : HR b w e 88 none [.code c53,.inBlock 5,.code c56,.inLoop c41,.inBlock 4,.code c57,.inBlock 1,.inLoop c4,.inBlock 0] ⟨[y0,j,q,(Sl.hv y3),F,o,N,(.int .i64 y7),(.int .i64 y8),(Sl.hv y9),G,B,M,O,K,A,C,E,I,J,L,Q,U,V,Z,c,d,g,r,Kd,Ke,Kf,Kg,Kh,Ki,Kj,Kk,Kl,Km,Kn,Ko,Kp,Kq,Kr,Ks,Kt,Ku,Kv,(Sl.hv y48),(.int .i64 y49),(.int .i64 y50),Kz,Ma,Mb,Mc,Md,Me,Mf,Mg,Mh,Mi,Mj,Mk,Ml,(.bool y64),Mn,Mo,Mp,Mq,Mr,Ms,Mt,Mu,Mv,Mw],[]⟩ S (RR (.tup []) p.2) := by
 unfold J5 at h
 rcases ifc h with ⟨hc27,h⟩ | ⟨hc27,h⟩
 ·obtain ⟨p28,hp28,h⟩ := bindo h
  refine Zxb rfl (.tmp rfl) hc27 (qR rfl rfl (uM 65 rfl rfl (uM 66 rfl rfl (uM 67 rfl rfl (qS 68 rfl (Zxn (kl := .i64) (kh := .i64) (s := y9) (l := 1) (h := (Sl.len y9 : Int)) · tu42 si3 (.tmp rfl) (.inr ⟨_,rfl,(.int _ _)⟩) (.inl ⟨rfl,rfl⟩) hp28) ?_)))))
  try dsimp only [w0,w1,w2,w3]
  obtain ⟨p29,hp29,p30,hp30,h⟩ := bd2 h
  refine qS 69 rfl (oX (s := y3) · Zac7 sz42 rfl rfl hp29) (qN rfl (Zxk (v := (Sl.hv p28)) · sz42 (.tmp rfl) rfl (.tmp rfl) rfl hp30) (rE ?_))
  dsimp only [w0,w1,w2,w3]
  refine Zxf ?_
  try dsimp only [w0,w1,w2,w3]
  exact J6_snd hD hH hrec0 hrec1 h
 ·refine Zxc rfl (.tmp rfl) (bfalse hc27) (Zxd rfl (Zxf ?_))
  try dsimp only [w0,w1,w2,w3]
  exact J6_snd hD hH hrec0 hrec1 h
def L4 (D : Dp) (H : Hd) (k : Nat) (rec0 : HV → Sl → HS → Option ((Unit) × HS)) : Nat → HV → Sl → Int → Sl → Int → Int → HS → Option ((Unit) × HS)
 | 0,_,_,_,_,_,_,_ => none
 | n + 1,y0,y3,y7,y48,y49,y50,S =>
  (if y50 < y49 then
  ((S.idx y48 y50 1).bind fun p22 =>
  ((S.ldSl p22).bind fun p23 =>
  (if (Sl.len p23 : Int) > 0 then
  ((S.idx p23 0 1).bind fun p25 =>
  ((S.ldI .i64 p25).bind fun p26 =>
  J5 D H k (L4 D H k rec0 n) rec0 y0 y3 y7 y50 p23 y48 y49 y50 (decide (p26 = y7)) S)) else
  J5 D H k (L4 D H k rec0 n) rec0 y0 y3 y7 y50 p23 y48 y49 y50 false S))) else
  ((D H y0 [(.int .i64 y7)] S).bind fun p31 =>
  ((dB p31.1).bind fun p32 =>
  (if (!p32) = true then
  some ((),p31.2) else
  rec0 y0 y3 p31.2))))
theorem L4_snd {rec0 : HV → Sl → HS → Option ((Unit) × HS)} (hD : DS b w D) (hH : HT b w e H) (hrec0 : ∀ ⦃y0 : HV⦄ ⦃y3 : Sl⦄ ⦃S : HS⦄ ⦃p : (Unit) × HS⦄ ⦃j q F o N Gh i a G B M O K A C E I J L Q U V Z c d g r Kd Ke Kf Kg Kh Ki Kj Kk Kl Km Kn Ko Kp Kq Kr Ks Kt Ku Kv Kw Kx Ky Kz Ma Mb Mc Md Me Mf Mg Mh Mi Mj Mk Ml Mm Mn Mo Mp Mq Mr Ms Mt Mu Mv Mw : HV⦄,rec0 y0 y3 S = some p → HR b w e 88 none [.inLoop c4,.inBlock 0] ⟨[y0,j,q,(Sl.hv y3),F,o,N,Gh,i,a,G,B,M,O,K,A,C,E,I,J,L,Q,U,V,Z,c,d,g,r,Kd,Ke,Kf,Kg,Kh,Ki,Kj,Kk,Kl,Km,Kn,Ko,Kp,Kq,Kr,Ks,Kt,Ku,Kv,Kw,Kx,Ky,Kz,Ma,Mb,Mc,Md,Me,Mf,Mg,Mh,Mi,Mj,Mk,Ml,Mm,Mn,Mo,Mp,Mq,Mr,Ms,Mt,Mu,Mv,Mw],[]⟩ S (RR (.tup []) p.2)) : ∀ {n : Nat} ⦃y0 : HV⦄ ⦃y3 : Sl⦄ ⦃y7 : Int⦄ ⦃y48 : Sl⦄ ⦃y49 : Int⦄ ⦃y50 : Int⦄ ⦃S : HS⦄ ⦃p : (Unit) × HS⦄ ⦃j q F o N i a G B M O K A C E I J L Q U V Z c d g r Kd Ke Kf Kg Kh Ki Kj Kk Kl Km Kn Ko Kp Kq Kr Ks Kt Ku Kv Kz Ma Mb Mc Md Me Mf Mg Mh Mi Mj Mk Ml Mm Mn Mo Mp Mq Mr Ms Mt Mu Mv Mw : HV⦄,L4 D H k rec0 n y0 y3 y7 y48 y49 y50 S = some p → HR b w e 88 none [.inLoop c41,.inBlock 4,.code c57,.inBlock 1,.inLoop c4,.inBlock 0] ⟨[y0,j,q,(Sl.hv y3),F,o,N,(.int .i64 y7),i,a,G,B,M,O,K,A,C,E,I,J,L,Q,U,V,Z,c,d,g,r,Kd,Ke,Kf,Kg,Kh,Ki,Kj,Kk,Kl,Km,Kn,Ko,Kp,Kq,Kr,Ks,Kt,Ku,Kv,(Sl.hv y48),(.int .i64 y49),(.int .i64 y50),Kz,Ma,Mb,Mc,Md,Me,Mf,Mg,Mh,Mi,Mj,Mk,Ml,Mm,Mn,Mo,Mp,Mq,Mr,Ms,Mt,Mu,Mv,Mw],[]⟩ S (RR (.tup []) p.2) := by
 intro n
 induction n with
 | zero => intro _ _ _ _ _ _ _ _ _ _ _ _ _ _ _ _ _ _ _ _ _ _ _ _ _ _ _ _ _ _ _ _ _ _ _ _ _ _ _ _ _ _ _ _ _ _ _ _ _ _ _ _ _ _ _ _ _ _ _ _ _ _ _ _ _ _ _ _ _ _ _ _ _ _ _ _ _ h; cases h
 | succ n ih =>
  intro y0 y3 y7 y48 y49 y50 S p j q F o N i a G B M O K A C E I J L Q U V Z c d g r Kd Ke Kf Kg Kh Ki Kj Kk Kl Km Kn Ko Kp Kq Kr Ks Kt Ku Kv Kz Ma Mb Mc Md Me Mf Mg Mh Mi Mj Mk Ml Mm Mn Mo Mp Mq Mr Ms Mt Mu Mv Mw h
  simp only [L4] at h
  refine Zxz (qT rfl rfl rfl (uB 51 rfl rfl rfl rfl (rE ?_)))
  dsimp only [w0,w1,w2,w3]
  refine qQ rfl ?_
  rcases ifc h with ⟨hc21,h⟩ | ⟨hc21,h⟩
  ·obtain ⟨p22,hp22,p23,hp23,h⟩ := bd2 h
   refine Zxb rfl (.tmp rfl) (decide_eq_true hc21) (Zxd rfl (qQ rfl (Zxo rfl (qT rfl rfl rfl (uM 52 rfl rfl (qS 53 rfl (oX (s := y48) · Zac7 sz42 rfl rfl hp22) (uL 54 rfl sc42 rfl rfl (Zxj hp23) (uA 8 rfl rfl ?_))))))))
   try dsimp only [w0,w1,w2,w3]
   refine uA 9 rfl rfl (rE ?_)
   dsimp only [w0,w1,w2,w3]
   refine qT rfl rfl rfl (uM 55 rfl rfl (qS 56 rfl (Zxg (q := Sl.a p23) (n := Sl.len p23) (z := Sl.cap p23) · rfl tu42 (.tmp rfl)) (uC 57 rfl rfl rfl (uM 58 rfl rfl ?_))))
   try dsimp only [w0,w1,w2,w3]
   rcases ifc h with ⟨hc24,h⟩ | ⟨hc24,h⟩
   ·obtain ⟨p25,hp25,p26,hp26,h⟩ := bd2 h
    refine qG 58 59 rfl (decide_eq_true hc24) (oM · rfl) (qG 58 60 rfl (decide_eq_true hc24) (Zyq (s := p23) · tu42 sz3 (.tmp rfl) (.int _ _) hp25) (qG 58 61 rfl (decide_eq_true hc24) (oL · sc3 rfl rfl (Zxq hp26)) (qG 58 62 rfl (decide_eq_true hc24) (oM · rfl) ?_)))
    try dsimp only [w0,w1,w2,w3]
    refine qG 58 63 rfl (decide_eq_true hc24) (oB · rfl rfl rfl) (qS 64 rfl (Zxh · (.tmp rfl) (decide_eq_true hc24) (.tmp rfl)) (rE ?_))
    dsimp only [w0,w1,w2,w3]
    exact J5_snd hD hH ih hrec0 h
   ·refine Zxi (dst := some 59) (t := 58) rfl rfl rfl (decide_eq_false hc24) (Zxi (dst := some 60) (t := 58) rfl rfl rfl (decide_eq_false hc24) (Zxi (dst := some 61) (t := 58) rfl rfl rfl (decide_eq_false hc24) (Zxi (dst := some 62) (t := 58) rfl rfl rfl (decide_eq_false hc24) ?_)))
    try dsimp only [w0,w1,w2,w3]
    refine Zxi (dst := some 63) (t := 58) rfl rfl rfl (decide_eq_false hc24) (qS 64 rfl (Zxm · (.tmp rfl) (decide_eq_false hc24) (.bool _)) (rE ?_))
    dsimp only [w0,w1,w2,w3]
    exact J5_snd hD hH ih hrec0 h
  ·obtain ⟨p31,hp31,p32,hp32,h⟩ := bd2 h
   refine Zxc rfl (.tmp rfl) (decide_eq_false hc21) (Zyh rfl rfl (qT rfl rfl rfl (uM 71 rfl rfl (uM 72 rfl rfl (uQ 73 rfl (.tmp rfl) (ev1 rfl) (hD _ _ hH _ _ _ _ _ hp31) ?_)))))
   rw [Zaak hp32]
   refine qS 74 rfl (Zys · (.tmp rfl)) (rE ?_)
   dsimp only [w0,w1,w2,w3]
   rcases ifc h with ⟨hc33,h⟩ | ⟨hc33,h⟩
   ·cases h
    exact Zxb rfl (.tmp rfl) hc33 (Zxl rfl at_.at_ rfl (res0 rfl) ⟨rfl,rfl⟩)
   ·refine Zxc rfl (.tmp rfl) (bfalse hc33) (Zxd rfl (Zxf ?_))
    try dsimp only [w0,w1,w2,w3]
    exact hrec0 h
def L1 (D : Dp) (H : Hd) (k : Nat) (rec0 : HV → Sl → HS → Option ((Unit) × HS)) : Nat → HV → Sl → Int → Sl → Int → Int → HS → Option ((Unit) × HS)
 | 0,_,_,_,_,_,_,_ => none
 | n + 1,y0,y3,y4,y12,y13,y14,S =>
  (if y14 < y13 then
  ((S.idx y12 y14 1).bind fun p5 =>
  ((S.ldSl p5).bind fun p6 =>
  (if (Sl.len p6 : Int) > 0 then
  (if y4 < 0 then
  J2 D H k (L1 D H k rec0 n) rec0 y0 y3 y4 y14 y12 y13 y14 true S else
  ((S.idx p6 0 1).bind fun p10 =>
  ((S.ldI .i64 p10).bind fun p11 =>
  ((S.idx y3 y4 1).bind fun p12 =>
  ((S.ldSl p12).bind fun p13 =>
  ((S.idx p13 0 1).bind fun p14 =>
  ((S.ldI .i64 p14).bind fun p15 =>
  J2 D H k (L1 D H k rec0 n) rec0 y0 y3 y4 y14 y12 y13 y14 (decide (p11 < p15)) S))))))) else
  J2 D H k (L1 D H k rec0 n) rec0 y0 y3 y4 y14 y12 y13 y14 false S))) else
  (if y4 < 0 then
  some ((),S) else
  ((S.idx y3 y4 1).bind fun p17 =>
  ((S.ldSl p17).bind fun p18 =>
  ((S.idx p18 0 1).bind fun p19 =>
  ((S.ldI .i64 p19).bind fun p20 =>
  L4 D H k rec0 k y0 y3 p20 y3 (Sl.len y3 : Int) 0 S))))))
theorem L1_snd {rec0 : HV → Sl → HS → Option ((Unit) × HS)} (hD : DS b w D) (hH : HT b w e H) (hrec0 : ∀ ⦃y0 : HV⦄ ⦃y3 : Sl⦄ ⦃S : HS⦄ ⦃p : (Unit) × HS⦄ ⦃j q F o N Gh i a G B M O K A C E I J L Q U V Z c d g r Kd Ke Kf Kg Kh Ki Kj Kk Kl Km Kn Ko Kp Kq Kr Ks Kt Ku Kv Kw Kx Ky Kz Ma Mb Mc Md Me Mf Mg Mh Mi Mj Mk Ml Mm Mn Mo Mp Mq Mr Ms Mt Mu Mv Mw : HV⦄,rec0 y0 y3 S = some p → HR b w e 88 none [.inLoop c4,.inBlock 0] ⟨[y0,j,q,(Sl.hv y3),F,o,N,Gh,i,a,G,B,M,O,K,A,C,E,I,J,L,Q,U,V,Z,c,d,g,r,Kd,Ke,Kf,Kg,Kh,Ki,Kj,Kk,Kl,Km,Kn,Ko,Kp,Kq,Kr,Ks,Kt,Ku,Kv,Kw,Kx,Ky,Kz,Ma,Mb,Mc,Md,Me,Mf,Mg,Mh,Mi,Mj,Mk,Ml,Mm,Mn,Mo,Mp,Mq,Mr,Ms,Mt,Mu,Mv,Mw],[]⟩ S (RR (.tup []) p.2)) : ∀ {n : Nat} ⦃y0 : HV⦄ ⦃y3 : Sl⦄ ⦃y4 : Int⦄ ⦃y12 : Sl⦄ ⦃y13 : Int⦄ ⦃y14 : Int⦄ ⦃S : HS⦄ ⦃p : (Unit) × HS⦄ ⦃j q o N Gh i a G B A C E I J L Q U V Z c d g r Kd Ke Kf Kg Kh Ki Kj Kk Kl Km Kn Ko Kp Kq Kr Ks Kt Ku Kv Kw Kx Ky Kz Ma Mb Mc Md Me Mf Mg Mh Mi Mj Mk Ml Mm Mn Mo Mp Mq Mr Ms Mt Mu Mv Mw : HV⦄,L1 D H k rec0 n y0 y3 y4 y12 y13 y14 S = some p → HR b w e 88 none [.inLoop c12,.inBlock 2,.code c28,.inBlock 1,.inLoop c4,.inBlock 0] ⟨[y0,j,q,(Sl.hv y3),(.int .i64 y4),o,N,Gh,i,a,G,B,(Sl.hv y12),(.int .i64 y13),(.int .i64 y14),A,C,E,I,J,L,Q,U,V,Z,c,d,g,r,Kd,Ke,Kf,Kg,Kh,Ki,Kj,Kk,Kl,Km,Kn,Ko,Kp,Kq,Kr,Ks,Kt,Ku,Kv,Kw,Kx,Ky,Kz,Ma,Mb,Mc,Md,Me,Mf,Mg,Mh,Mi,Mj,Mk,Ml,Mm,Mn,Mo,Mp,Mq,Mr,Ms,Mt,Mu,Mv,Mw],[]⟩ S (RR (.tup []) p.2) := by
 intro n
 induction n with
 | zero => intro _ _ _ _ _ _ _ _ _ _ _ _ _ _ _ _ _ _ _ _ _ _ _ _ _ _ _ _ _ _ _ _ _ _ _ _ _ _ _ _ _ _ _ _ _ _ _ _ _ _ _ _ _ _ _ _ _ _ _ _ _ _ _ _ _ _ _ _ _ _ _ _ _ _ _ _ _ h; cases h
 | succ n ih =>
  intro y0 y3 y4 y12 y13 y14 S p j q o N Gh i a G B A C E I J L Q U V Z c d g r Kd Ke Kf Kg Kh Ki Kj Kk Kl Km Kn Ko Kp Kq Kr Ks Kt Ku Kv Kw Kx Ky Kz Ma Mb Mc Md Me Mf Mg Mh Mi Mj Mk Ml Mm Mn Mo Mp Mq Mr Ms Mt Mu Mv Mw h
  simp only [L1] at h
  refine Zxz (qT rfl rfl rfl (uB 15 rfl rfl rfl rfl (rE ?_)))
  dsimp only [w0,w1,w2,w3]
  refine qQ rfl ?_
  rcases ifc h with ⟨hc4,h⟩ | ⟨hc4,h⟩
  ·obtain ⟨p5,hp5,p6,hp6,h⟩ := bd2 h
   refine Zxb rfl (.tmp rfl) (decide_eq_true hc4) (Zxd rfl (qQ rfl (Zxo rfl (qT rfl rfl rfl (uM 16 rfl rfl (qS 17 rfl (oX (s := y12) · Zac7 sz42 rfl rfl hp5) (uL 18 rfl sc42 rfl rfl (Zxj hp6) (uA 5 rfl rfl ?_))))))))
   try dsimp only [w0,w1,w2,w3]
   refine uA 6 rfl rfl (rE ?_)
   dsimp only [w0,w1,w2,w3]
   refine qQ rfl ?_
   refine Zx8 (cls := [0,0,0,0,0,0,0,0,1,1,0,0,1,1,1,1,0,0,0]) (rk := [0,1,2,3,4,5,6,7,8,9,10,11,12,13,14,15,16,17,18]) rfl (by kernel_rfl) ?_
   refine yf 19 [6] rfl (oM · rfl) ?_
   refine yf 20 [19] rfl (Zxg (q := Sl.a p6) (n := Sl.len p6) (z := Sl.cap p6) · rfl tu42 (.tmp rfl)) ?_
   refine yf 21 [20] rfl (oC · rfl rfl) ?_
   refine yf 22 [21] rfl (oM · rfl) ?_
   try dsimp only [w0,w1,w2,w3]
   rcases ifc h with ⟨hc7,h⟩ | ⟨hc7,h⟩
   ·refine yfg 23 22 [4,22] rfl (decide_eq_true hc7) (oM · rfl) ?_
    refine yfg 24 22 [23,22] rfl (decide_eq_true hc7) (oC · rfl rfl) ?_
    refine yfg 25 22 [24,22] rfl (decide_eq_true hc7) (oM · rfl) ?_
    rcases ifc h with ⟨hc8,h⟩ | ⟨hc8,h⟩
    ·refine yfs 26 25 [6,25] rfl (decide_eq_true hc8) ?_
     try dsimp only [w0,w1,w2,w3]
     refine yrs 27 25 [26,25] rfl (decide_eq_true hc8) ?_
     refine yrs 28 25 [27,25] rfl (decide_eq_true hc8) ?_
     refine yfs 29 25 [3,25] rfl (decide_eq_true hc8) ?_
     refine yfs 30 25 [4,25] rfl (decide_eq_true hc8) ?_
     try dsimp only [w0,w1,w2,w3]
     refine yrs 31 25 [29,30,25] rfl (decide_eq_true hc8) ?_
     refine yrs 32 25 [31,25] rfl (decide_eq_true hc8) ?_
     refine yrs 33 25 [32,25] rfl (decide_eq_true hc8) ?_
     refine yrs 34 25 [33,25] rfl (decide_eq_true hc8) ?_
     try dsimp only [w0,w1,w2,w3]
     refine yfs 35 25 [28,34,25] rfl (decide_eq_true hc8) ?_
     refine yfg 36 22 [25,35,22] rfl (decide_eq_true hc7) (Zxh · (.tmp rfl) (decide_eq_true hc8) (.bool _)) ?_
     refine yf 37 [22,36] rfl (Zxh · (.tmp rfl) (decide_eq_true hc7) (.tmp rfl)) ?_
     refine Zx5 rfl ?_
     refine rE ?_
     try dsimp only [w0,w1,w2,w3]
     exact J2_snd hD hH ih hrec0 h
    ·refine yfg 26 25 [6,25] rfl (decide_eq_false hc8) (oM · rfl) ?_
     try dsimp only [w0,w1,w2,w3]
     obtain ⟨p10,hp10,h⟩ := bindo h
     refine yrg 27 25 [26,25] rfl (decide_eq_false hc8) (Zyq (s := p6) · tu42 sz3 (.tmp rfl) (.int _ _) hp10) ?_
     obtain ⟨p11,hp11,h⟩ := bindo h
     refine yrg 28 25 [27,25] rfl (decide_eq_false hc8) (oL · sc3 rfl rfl (Zxq hp11)) ?_
     refine yfg 29 25 [3,25] rfl (decide_eq_false hc8) (oM · rfl) ?_
     refine yfg 30 25 [4,25] rfl (decide_eq_false hc8) (oM · rfl) ?_
     try dsimp only [w0,w1,w2,w3]
     obtain ⟨p12,hp12,h⟩ := bindo h
     refine yrg 31 25 [29,30,25] rfl (decide_eq_false hc8) (oX (s := y3) · Zac7 sz42 rfl rfl hp12) ?_
     obtain ⟨p13,hp13,h⟩ := bindo h
     refine yrg 32 25 [31,25] rfl (decide_eq_false hc8) (oL · sc42 rfl rfl (Zxj hp13)) ?_
     obtain ⟨p14,hp14,h⟩ := bindo h
     refine yrg 33 25 [32,25] rfl (decide_eq_false hc8) (Zyq (s := p13) · tu42 sz3 (.tmp rfl) (.int _ _) hp14) ?_
     obtain ⟨p15,hp15,h⟩ := bindo h
     refine yrg 34 25 [33,25] rfl (decide_eq_false hc8) (oL · sc3 rfl rfl (Zxq hp15)) ?_
     try dsimp only [w0,w1,w2,w3]
     refine yfg 35 25 [28,34,25] rfl (decide_eq_false hc8) (oB · rfl rfl rfl) ?_
     refine yfg 36 22 [25,35,22] rfl (decide_eq_true hc7) (Zxm · (.tmp rfl) (decide_eq_false hc8) (.tmp rfl)) ?_
     refine yf 37 [22,36] rfl (Zxh · (.tmp rfl) (decide_eq_true hc7) (.tmp rfl)) ?_
     refine Zx5 rfl ?_
     refine rE ?_
     try dsimp only [w0,w1,w2,w3]
     exact J2_snd hD hH ih hrec0 h
   ·refine yfs 23 22 [4,22] rfl (decide_eq_false hc7) ?_
    refine yfs 24 22 [23,22] rfl (decide_eq_false hc7) ?_
    refine yfs 25 22 [24,22] rfl (decide_eq_false hc7) ?_
    refine x_go (Zzg (dst := some 26) (t := 25) (ts := [6,25]) rfl (by kernel_rfl) rfl rfl) rfl ?_
    try dsimp only [w0,w1,w2,w3]
    refine x_go (Zz0 (dst := some 27) (t := 25) (ts := [26,25]) rfl (by kernel_rfl) rfl rfl) rfl ?_
    refine x_go (Zz0 (dst := some 28) (t := 25) (ts := [27,25]) rfl (by kernel_rfl) rfl rfl) rfl ?_
    refine x_go (Zzg (dst := some 29) (t := 25) (ts := [3,25]) rfl (by kernel_rfl) rfl rfl) rfl ?_
    refine x_go (Zzg (dst := some 30) (t := 25) (ts := [4,25]) rfl (by kernel_rfl) rfl rfl) rfl ?_
    try dsimp only [w0,w1,w2,w3]
    refine x_go (Zz0 (dst := some 31) (t := 25) (ts := [29,30,25]) rfl (by kernel_rfl) rfl rfl) rfl ?_
    refine x_go (Zz0 (dst := some 32) (t := 25) (ts := [31,25]) rfl (by kernel_rfl) rfl rfl) rfl ?_
    refine x_go (Zz0 (dst := some 33) (t := 25) (ts := [32,25]) rfl (by kernel_rfl) rfl rfl) rfl ?_
    refine x_go (Zz0 (dst := some 34) (t := 25) (ts := [33,25]) rfl (by kernel_rfl) rfl rfl) rfl ?_
    try dsimp only [w0,w1,w2,w3]
    refine x_go (Zzg (dst := some 35) (t := 25) (ts := [28,34,25]) rfl (by kernel_rfl) rfl rfl) rfl ?_
    refine yfs 36 22 [25,35,22] rfl (decide_eq_false hc7) ?_
    refine yf 37 [22,36] rfl (Zxm · (.tmp rfl) (decide_eq_false hc7) (.bool _)) ?_
    refine Zx5 rfl ?_
    refine rE ?_
    try dsimp only [w0,w1,w2,w3]
    exact J2_snd hD hH ih hrec0 h
  ·refine Zxc rfl (.tmp rfl) (decide_eq_false hc4) (Zyh rfl rfl (qQ rfl (qT rfl rfl rfl (uM 40 rfl rfl (uC 41 rfl rfl rfl (rE ?_))))))
   dsimp only [w0,w1,w2,w3]
   rcases ifc h with ⟨hc16,h⟩ | ⟨hc16,h⟩
   ·cases h
    exact Zxb rfl (.tmp rfl) (decide_eq_true hc16) (Zxl rfl at_.at_ rfl (res0 rfl) ⟨rfl,rfl⟩)
   ·obtain ⟨p17,hp17,p18,hp18,h⟩ := bd2 h
    refine Zxc rfl (.tmp rfl) (decide_eq_false hc16) (Zxd rfl (qT rfl rfl rfl (uM 42 rfl rfl (uM 43 rfl rfl (qS 44 rfl (oX (s := y3) · Zac7 sz42 rfl rfl hp17) (uL 45 rfl sc42 rfl rfl (Zxj hp18) ?_))))))
    try dsimp only [w0,w1,w2,w3]
    obtain ⟨p19,hp19,p20,hp20,h⟩ := bd2 h
    refine qS 46 rfl (Zyq (s := p18) · tu42 sz3 (.tmp rfl) (.int _ _) hp19) (uL 47 rfl sc3 rfl rfl (Zxq hp20) (uA 7 rfl rfl (rE ?_)))
    dsimp only [w0,w1,w2,w3]
    refine qQ rfl (qT rfl rfl rfl (uM 48 rfl rfl (qS 49 rfl (Zxg (q := Sl.a y3) (n := Sl.len y3) (z := Sl.cap y3) · rfl Zac7 (.tmp rfl)) (qS 50 rfl (Zzj · (.int _ _)) (rE ?_)))))
    dsimp only [w0,w1,w2,w3]
    refine Zxo rfl (Zye rfl ?_)
    try dsimp only [w0,w1,w2,w3]
    exact L4_snd hD hH hrec0 h
def L0 (D : Dp) (H : Hd) (k : Nat) : Nat → HV → Sl → HS → Option ((Unit) × HS)
 | 0,_,_,_ => none
 | n + 1,y0,y3,S =>
  L1 D H k (L0 D H k n) k y0 y3 (-1) y3 (Sl.len y3 : Int) 0 S
theorem L0_snd (hD : DS b w D) (hH : HT b w e H) : ∀ {n : Nat} ⦃y0 : HV⦄ ⦃y3 : Sl⦄ ⦃S : HS⦄ ⦃p : (Unit) × HS⦄ ⦃j q F o N Gh i a G B M O K A C E I J L Q U V Z c d g r Kd Ke Kf Kg Kh Ki Kj Kk Kl Km Kn Ko Kp Kq Kr Ks Kt Ku Kv Kw Kx Ky Kz Ma Mb Mc Md Me Mf Mg Mh Mi Mj Mk Ml Mm Mn Mo Mp Mq Mr Ms Mt Mu Mv Mw : HV⦄,L0 D H k n y0 y3 S = some p → HR b w e 88 none [.inLoop c4,.inBlock 0] ⟨[y0,j,q,(Sl.hv y3),F,o,N,Gh,i,a,G,B,M,O,K,A,C,E,I,J,L,Q,U,V,Z,c,d,g,r,Kd,Ke,Kf,Kg,Kh,Ki,Kj,Kk,Kl,Km,Kn,Ko,Kp,Kq,Kr,Ks,Kt,Ku,Kv,Kw,Kx,Ky,Kz,Ma,Mb,Mc,Md,Me,Mf,Mg,Mh,Mi,Mj,Mk,Ml,Mm,Mn,Mo,Mp,Mq,Mr,Ms,Mt,Mu,Mv,Mw],[]⟩ S (RR (.tup []) p.2) := by
 intro n
 induction n with
 | zero => intro _ _ _ _ _ _ _ _ _ _ _ _ _ _ _ _ _ _ _ _ _ _ _ _ _ _ _ _ _ _ _ _ _ _ _ _ _ _ _ _ _ _ _ _ _ _ _ _ _ _ _ _ _ _ _ _ _ _ _ _ _ _ _ _ _ _ _ _ _ _ _ _ _ _ _ _ _ h; cases h
 | succ n ih =>
  intro y0 y3 S p j q F o N Gh i a G B M O K A C E I J L Q U V Z c d g r Kd Ke Kf Kg Kh Ki Kj Kk Kl Km Kn Ko Kp Kq Kr Ks Kt Ku Kv Kw Kx Ky Kz Ma Mb Mc Md Me Mf Mg Mh Mi Mj Mk Ml Mm Mn Mo Mp Mq Mr Ms Mt Mu Mv Mw h
  simp only [L0] at h
  refine Zxz (Zxo rfl (qT rfl rfl rfl (qS 4 rfl (Zxa · (.int _ _)) (rE ?_))))
  dsimp only [w0,w1,w2,w3]
  refine qQ rfl (qT rfl rfl rfl (uM 12 rfl rfl (qS 13 rfl (Zxg (q := Sl.a y3) (n := Sl.len y3) (z := Sl.cap y3) · rfl Zac7 (.tmp rfl)) (qS 14 rfl (Zzj · (.int _ _)) (rE ?_)))))
  dsimp only [w0,w1,w2,w3]
  refine Zxo rfl (Zye rfl ?_)
  try dsimp only [w0,w1,w2,w3]
  exact L1_snd hD hH ih h
def f (D : Dp) (H : Hd) (k : Nat) (x0 : HV) (x1 : HP) (S : HS) : Option ((Unit) × HS) :=
 (x1.bind fun p1 =>
 ((S.ldSl p1).bind fun p2 =>
 ((Y127.f p2 S).bind fun p3 =>
 L0 D H k k x0 p3.1 p3.2)))
theorem snd {x0 : HV} {x1 : HP} (hD : DS b w D) (hH : HT b w e H) {p : (Unit) × HS} (h : f D H k x0 x1 S = some p) : HC b w e 88 [x0,(.ptr x1)] S (RR (.tup []) p.2) := by
 unfold f at h
 refine HCall.of_run at_.at_ body ?_
 show HR b w e 88 none [.code c0] ⟨[x0,(.ptr x1),z,z,z,z,z,z,z,z,z,z,z,z,z,z,z,z,z,z,z,z,z,z,z,z,z,z,z,z,z,z,z,z,z,z,z,z,z,z,z,z,z,z,z,z,z,z,z,z,z,z,z,z,z,z,z,z,z,z,z,z,z,z,z,z,z,z,z,z,z,z,z,z,z],[]⟩ S _
 obtain ⟨p1,hp1,p2,hp2,p3,hp3,h⟩ := bd3 h
 refine qT rfl rfl rfl (uL 10 rfl sc144 rfl hp1 (Zxj hp2) (uQ 11 rfl (.func _) (ev1 rfl) (HInv.static Y127.at_ Y127.body (Y127.snd  hp3)) (uA 3 rfl rfl (rE ?_))))
 dsimp only [w0,w1,w2,w3]
 refine Zxo rfl (Zye rfl ?_)
 try dsimp only [w0,w1,w2,w3]
 exact L0_snd hD hH h
end Y131
namespace Y105
theorem at_ : FnAt Tryz.prog 57 Tryz.f57 := ⟨Tryz.func57,by kernel_rfl⟩
def d0 := (Tryz.f57.body).getD .skip
def r1 := kT d0
def r3 := kT (kB d0)
def d5 := kY (kB d0)
def r6 := kT d5
def d9 := kX (kB d5)
def r10 := kT d9
def r18 := kT (kX (kW d9))
def r19 := kR (kZ (kY (kB d9)))
def r20 := kR (kW (kB d9))
def r22 := kT (kW (kB d0))
def c21 : Code := .seq (.region 7 r22 false) .ret
def c9 : Code := .seq (.region 3 r10 false) (.seq (.cond (.tmp 9) .skip (.exit 0)) (.seq (.block 1 (.seq (.region 4 r18 false) (.region 5 r19 true))) (.region 6 r20 false)))
def c0 : Code := .seq (.region 0 r1 false) (.seq (.region 1 r3 false) (.seq (.seq (.region 2 r6 false) (.block 0 (.loop c9))) c21))
theorem body : Tryz.f57.body = some c0 := by kernel_rfl
def L0 (k : Nat) : Nat → HP → Sl → Int → Int → HS → Option ((HV) × HS)
 | 0,_,_,_,_,_ => none
 | n + 1,y3,y6,y7,y8,S =>
  (if y8 < y7 then
  ((S.idx y6 y8 1).bind fun p3 =>
  ((S.ldP p3).bind fun p4 =>
  (y3.bind fun p5 =>
  ((S.ldSl p5).bind fun p6 =>
  ((Y84.f p4 S).bind fun p7 =>
  ((p7.2.ldSl p5).bind fun p8 =>
  (if p8 = p6 then
  (letv (HS.lit p7.2 [[(Sl.hv p7.1)]] 1) fun p10 =>
  ((p10.2.ldSl p5).bind fun p11 =>
  (if p11 = p6 then
  ((p10.2.rows (p10.1) 1).bind fun p13 =>
  ((p10.2.app p6 p13 1).bind fun p14 =>
  (y3.bind fun p15 =>
  ((p14.2.sets p15 [(Sl.hv (p14.1))]).bind fun p16 =>
  (L0 k n) y3 y6 y7 (w64 (y8 + 1)) p16)))) else none))) else none))))))) else
  some ((HV.fn (.func 88) [] [(.ptr y3)]),S))
theorem L0_snd  : ∀ {n : Nat} ⦃y3 : HP⦄ ⦃y6 : Sl⦄ ⦃y7 : Int⦄ ⦃y8 : Int⦄ ⦃S : HS⦄ ⦃p : (HV) × HS⦄ ⦃Ga j q F o a G B M O K A C E I : HV⦄,L0 k n y3 y6 y7 y8 S = some p → HR b w e 57 none [.inLoop c9,.inBlock 0,.code c21] ⟨[Ga,j,q,(.ptr y3),F,o,(Sl.hv y6),(.int .i64 y7),(.int .i64 y8),a,G,B,M,O,K,A,C,E,I],[]⟩ S (RR p.1 p.2) := by
 intro n
 induction n with
 | zero => intro _ _ _ _ _ _ _ _ _ _ _ _ _ _ _ _ _ _ _ _ _ h; cases h
 | succ n ih =>
  intro y3 y6 y7 y8 S p Ga j q F o a G B M O K A C E I h
  simp only [L0] at h
  refine Zxz (qT rfl rfl rfl (uB 9 rfl rfl rfl rfl (rE ?_)))
  dsimp only [w0,w1,w2,w3]
  refine qQ rfl ?_
  rcases ifc h with ⟨hc2,h⟩ | ⟨hc2,h⟩
  ·obtain ⟨p3,hp3,p4,hp4,h⟩ := bd2 h
   refine Zxb rfl (.tmp rfl) (decide_eq_true hc2) (Zxd rfl (qQ rfl (Zxo rfl (qT rfl rfl rfl (qS 10 rfl (oX (s := y6) · tu95 sz96 rfl rfl hp3) (uL 11 rfl sc96 rfl rfl (Zx0 hp4) (uA 5 rfl rfl (rE ?_))))))))
   dsimp only [w0,w1,w2,w3]
   refine Zx8 (cls := [3,0,2,2,2,2]) (rk := [0,1,2,3,4,5]) rfl (by kernel_rfl) ?_
   obtain ⟨p5,hp5,p6,hp6,h⟩ := bd2 h
   refine Zx3 (r_op (dst := some 12) (ts := [3]) rfl (by intro _ _ h; cases h) (by kernel_rfl) (fun _ ho => Zxs ho sc144 (.tmp rfl) hp5 (Zxj hp6))) rfl trivial ?_
   refine xf 13 [5] rfl (oM · rfl) ?_
   obtain ⟨p7,hp7,p8,hp8,h⟩ := bd2 h
   obtain ⟨hg9,h⟩ := gd h
   refine Zzc (Zaa3 (dst := some 14) (ts := [13]) rfl (by kernel_rfl) (.func _) (ev1 rfl) (HInv.static Y84.at_ Y84.body (Y84.snd  hp7))) rfl ⟨.inr (l_op (dst := some 12) (ts := [3]) rfl (by intro _ _ h; cases h) (by kernel_rfl) (fun _ ho => Zxs ho sc144 (.tmp rfl) hp5 (Zxj (hp8.trans (congrArg some hg9))))),trivial⟩ ?_
   obtain ⟨p10,hp10,h⟩ := leto h
   obtain ⟨p11,hp11,h⟩ := bindo h
   obtain ⟨hg12,h⟩ := gd h
   refine ze 15 [14] rfl (Zxp (xs := [(.tmp 14)]) el144 · rfl rfl (by decide) (ev1 rfl) rfl rfl hp10) ⟨.inr (l_op (dst := some 12) (ts := [3]) rfl (by intro _ _ h; cases h) (by kernel_rfl) (fun _ ho => Zxs ho sc144 (.tmp rfl) hp5 (Zxj (hp11.trans (congrArg some hg12))))),trivial⟩ ?_
   try dsimp only [w0,w1,w2,w3]
   obtain ⟨p13,hp13,p14,hp14,h⟩ := bd2 h
   refine ze 16 [12,15] rfl (Zx1 (s := p6) (s1 := (p10.1)) el144 · rfl rfl ⟨_,Zac7⟩ (.tmp rfl) (.tmp rfl) hp13 hp14) ⟨.inl (by kernel_rfl),trivial⟩ ?_
   obtain ⟨p15,hp15,p16,hp16,h⟩ := bd2 h
   refine Zzc (e_op (dst := none) (ts := [3,16]) rfl (by intro _ _ h; cases h) (by kernel_rfl) (fun _ ho => Zxk (v := (Sl.hv (p14.1))) ho sz144 (.tmp rfl) hp15 (.tmp rfl) rfl hp16)) rfl ⟨.inl (by kernel_rfl),trivial⟩ ?_
   refine Zx5 rfl ?_
   refine rE ?_
   try dsimp only [w0,w1,w2,w3]
   refine Zxf (qR rfl rfl (uC 17 rfl rfl rfl (uM 8 rfl rfl (rE ?_))))
   dsimp only [w0,w1,w2,w3]
   exact ih h
  ·refine Zxc rfl (.tmp rfl) (decide_eq_false hc2) (Zyh rfl rfl (qT rfl rfl rfl (qS 18 rfl (Zzh · Evs.nil (ev1 rfl)) (uA 2 rfl rfl (rE ?_)))))
   cases h
   exact Zxl rfl at_.at_ rfl (res1 rfl rfl) ⟨rfl,rfl⟩
def f (k : Nat) (x0 : Sl) (S : HS) : Option ((HV) × HS) :=
 (letv (HS.new S (.cells 1 [[(Sl.hv Sl.nil)]] true)) fun p1 =>
 L0 k k (some (HA.cell0 S.next)) x0 (Sl.len x0 : Int) 0 p1)
theorem snd {x0 : Sl}  {p : (HV) × HS} (h : f k x0 S = some p) : HC b w e 57 [(Sl.hv x0)] S (RR p.1 p.2) := by
 unfold f at h
 refine HCall.of_run at_.at_ body ?_
 show HR b w e 57 none [.code c0] ⟨[(Sl.hv x0),z,z,z,z,z,z,z,z,z,z,z,z,z,z,z,z,z,z],[]⟩ S _
 refine qT rfl rfl rfl (qS 2 rfl (Zxa · (.const fun _ => .nilFn)) (rE ?_))
 dsimp only [w0,w1,w2,w3]
 obtain ⟨p1,hp1,h⟩ := leto h
 refine qT rfl rfl rfl (qS 3 rfl (Zx9 · zi144 zr144 (by decide) rfl hp1) (rE ?_))
 dsimp only [w0,w1,w2,w3]
 refine qQ rfl (qT rfl rfl rfl (uM 6 rfl rfl (qS 7 rfl (Zxg (q := Sl.a x0) (n := Sl.len x0) (z := Sl.cap x0) · rfl tu95 (.tmp rfl)) (qS 8 rfl (Zzj · (.int _ _)) (rE ?_)))))
 dsimp only [w0,w1,w2,w3]
 refine Zxo rfl (Zye rfl ?_)
 try dsimp only [w0,w1,w2,w3]
 exact L0_snd  h
end Y105
namespace Y125
theorem at_ : FnAt Tryz.prog 86 Tryz.f86 := ⟨Tryz.func86,by kernel_rfl⟩
def d0 := (Tryz.f86.body).getD .skip
def r1 := kT d0
def r4 := kT (kY d0)
def r9 := kT (kW d0)
def r12 := kT (kY (kW d0))
def r15 := kT (kY (kY (kW d0)))
def c16 : Code := .cond (.tmp 17) .ret .skip
def c13 : Code := .block 1 (.seq (.region 4 r15 false) c16)
def c12 : Code := .region 3 r12 false
def c0 : Code := .seq (.region 0 r1 false) (.seq (.seq (.region 1 r4 false) (.cond (.tmp 6) .ret .skip)) (.seq (.region 2 r9 false) (.block 0 (.rangeFunc (.tmp 7) #[8] c12 c13))))
theorem body : Tryz.f86.body = some c0 := by kernel_rfl
def J1 (D : Dp) (H : Hd) (l : Nat) (y17 : Bool) (S : HS) : Option (HV × HS) :=
 (if y17 = true then
 (HS.endr S l (some .ret)) else
 (HS.endr S l none))
theorem J1_snd {l : Nat} (hD : DS b w D) (hH : HT b w e H) {y17 : Bool} {p : HV × HS} (h : J1 D H l y17 S = some p) : HR b w e 86 (some l) [.code c16,.inBlock 1] ⟨[Ga,j,q,m,F,o,N,Gh,i,a,G,B,M,O,K,A,C,(.bool y17)],[]⟩ S (RR p.1 p.2) := by
 unfold J1 at h
 rcases ifc h with ⟨hc18,h⟩ | ⟨hc18,h⟩
 ·refine Zxb rfl (.tmp rfl) hc18 ?_
  exact Zaab rfl h ⟨rfl,rfl⟩
 ·refine Zxc rfl (.tmp rfl) (bfalse hc18) (Zxd rfl (Zxf ?_))
  exact Zy6 h ⟨rfl,rfl⟩
def J0 (D : Dp) (H : Hd) (l : Nat) (y2 : HP) (y3 : HP) (y8 : Int) (S : HS) : Option (HV × HS) :=
 ((S.begin_ l).bind fun p10 =>
 (y2.bind fun p11 =>
 ((p10.ldI .i64 p11).bind fun p12 =>
 (if (!decide (y8 = p12)) = true then
 (y3.bind fun p14 =>
 ((p10.ldF p14).bind fun p15 =>
 ((D H p15 [(.int .i64 y8)] p10).bind fun p16 =>
 ((dB p16.1).bind fun p17 =>
 J1 D H l (!p17) p16.2)))) else
 J1 D H l false p10))))
theorem J0_snd {l : Nat} (hD : DS b w D) (hH : HT b w e H) {y2 : HP} {y3 : HP} {y8 : Int} {p : HV × HS} (h : J0 D H l y2 y3 y8 S = some p) : HR b w e 86 (some l) [.code c12,.beginRound,.code c13] ⟨[Ga,j,(.ptr y2),(.ptr y3),F,o,N,Gh,(.int .i64 y8),a,G,B,M,O,K,A,C,E],[]⟩ S (RR p.1 p.2) := by
 unfold J0 at h
 refine qR rfl rfl (uA 4 rfl rfl (rE ?_))
 dsimp only [w0,w1,w2,w3]
 obtain ⟨p10,hp10,h⟩ := bindo h
 refine Zaaq hp10 ?_
 obtain ⟨p11,hp11,p12,hp12,h⟩ := bd2 h
 refine Zxo rfl (qT rfl rfl rfl (uM 9 rfl rfl (uL 10 rfl sc3 rfl hp11 (Zxq hp12) (uB 11 rfl rfl rfl rfl (uM 12 rfl rfl ?_)))))
 try dsimp only [w0,w1,w2,w3]
 rcases ifc h with ⟨hc13,h⟩ | ⟨hc13,h⟩
 ·obtain ⟨p14,hp14,p15,hp15,p16,hp16,p17,hp17,h⟩ := bd4 h
  refine qG 12 13 rfl hc13 (oL · sc85 rfl hp14 (Zach hp15)) (qG 12 14 rfl hc13 (oM · rfl) (Zyp (t := 12) (dst := some 15) rfl rfl rfl hc13 (.tmp rfl) (ev1 rfl) (hD _ _ hH _ _ _ _ _ hp16) ?_))
  rintro _ _ ⟨rfl,rfl⟩
  rw [Zaak hp17]
  refine qG 12 16 rfl hc13 (Zys · (.tmp rfl)) ?_
  try dsimp only [w0,w1,w2,w3]
  refine qS 17 rfl (Zxh · (.tmp rfl) hc13 (.tmp rfl)) (rE ?_)
  dsimp only [w0,w1,w2,w3]
  exact J1_snd hD hH h
 ·refine Zxi (dst := some 13) (t := 12) rfl rfl rfl (bfalse hc13) (Zxi (dst := some 14) (t := 12) rfl rfl rfl (bfalse hc13) (Zxi (dst := some 15) (t := 12) rfl rfl rfl (bfalse hc13) (Zxi (dst := some 16) (t := 12) rfl rfl rfl (bfalse hc13) ?_)))
  try dsimp only [w0,w1,w2,w3]
  refine qS 17 rfl (Zxm · (.tmp rfl) (bfalse hc13) (.bool _)) (rE ?_)
  dsimp only [w0,w1,w2,w3]
  exact J1_snd hD hH h
def f (D : Dp) (H : Hd) (x0 : HV) (x1 : HP) (x2 : HP) (S : HS) : Option ((Unit) × HS) :=
 ((dF x0).bind fun p1 =>
 (letv (HS.new S (.cells 1 [[p1]] true)) fun p2 =>
 (x1.bind fun p3 =>
 ((p2.ldF p3).bind fun p4 =>
 ((HV.isNilFn p4).bind fun p5 =>
 (if (p5) = true then
 ((p2.leave []).bind fun p7 =>
 some ((),p7)) else
 (x1.bind fun p8 =>
 ((p2.ldF p8).bind fun p9 =>
 ((D (Hd.set H (HS.next p2 + 1) fun vs T =>
 ((T.lp (HS.next p2 + 1)).bind fun u21 =>
 ((Zaad vs).bind fun ar19 =>
 ((dI .i64 ar19).bind fun p20 =>
 (J0 D H (HS.next p2 + 1) x2 (some (HA.cell0 S.next)) p20 T))))) p9 [.fn (.yield (HS.next p2 + 1)) [] []] (HS.new (HS.new p2 .defer) (.loop .ready none))).bind fun p22 =>
 ((p22.2.finish (HS.next p2 + 1)).bind fun p23 =>
 ((pcode p23.1).bind fun n24 =>
 (if n24 = 0 then
 ((p23.2.leave (HS.next p2 :: [])).bind fun p26 =>
 some ((),p26)) else
 (if n24 = 1 then
 ((p23.2.leave (HS.next p2 :: [])).bind fun p28 =>
 some ((),p28)) else
 none)))))))))))))
theorem snd {x0 : HV} {x1 : HP} {x2 : HP} (hD : DS b w D) (hH : HT b w e H) {p : (Unit) × HS} (h : f D H x0 x1 x2 S = some p) : HC b w e 86 [x0,(.ptr x1),(.ptr x2)] S (RR (.tup []) p.2) := by
 unfold f at h
 refine HCall.of_run at_.at_ body ?_
 show HR b w e 86 none [.code c0] ⟨[x0,(.ptr x1),(.ptr x2),z,z,z,z,z,z,z,z,z,z,z,z,z,z,z],[]⟩ S _
 obtain ⟨p1,hp1,h⟩ := bindo h
 obtain ⟨p2,hp2,h⟩ := leto h
 refine qT rfl rfl rfl (qS 3 rfl (Zaci · (.tmp rfl) hp1 hp2) (rE ?_))
 dsimp only [w0,w1,w2,w3]
 obtain ⟨p3,hp3,p4,hp4,p5,hp5,h⟩ := bd3 h
 refine qQ rfl (qT rfl rfl rfl (uL 5 rfl sc46 rfl hp3 (Zach hp4) (qS 6 rfl (Zacb · tu46 (.tmp rfl) hp5 (.inl ⟨rfl,rfl⟩)) (rE ?_))))
 dsimp only [w0,w1,w2,w3]
 rcases ifc h with ⟨hc6,h⟩ | ⟨hc6,h⟩
 ·obtain ⟨p7,hp7,h⟩ := bindo h
  cases h
  exact Zxb rfl (.tmp rfl) hc6 (Zxl rfl at_.at_ hp7 (res0 rfl) ⟨rfl,rfl⟩)
 ·obtain ⟨p8,hp8,p9,hp9,h⟩ := bd2 h
  refine Zxc rfl (.tmp rfl) (bfalse hc6) (Zxd rfl (qT rfl rfl rfl (uL 7 rfl sc46 rfl hp8 (Zach hp9) (rE ?_))))
  dsimp only [w0,w1,w2,w3]
  obtain ⟨p22,hp22,p23,hp23,h⟩ := bd2 h
  obtain ⟨n24,hn24,h⟩ := bindo h
  refine Zxo rfl ?_
  refine Zaa7 (D := D) (H := H) rfl (.tmp rfl) hD hH hp22 hp23 ?_ ?_
  ·intro β1 hle hLA vs T u T' hr
   obtain ⟨u21,hu21,hr⟩ := bindo hr
   obtain ⟨ar19,har19,hr⟩ := bindo hr
   obtain ⟨p20,hp20,hr⟩ := bindo hr
   rw [Zy7 har19]
   refine Zzy hLA hu21 rfl rfl ?_
   rw [Zaa2 hp20]
   simp only [HAct.params,List.set_cons_zero,List.set_cons_succ]
   exact J0_snd hD (hH.up hle) hr
  ·rcases ifc h with ⟨hc25,h⟩ | ⟨hc25,h⟩
   ·rw [Zabw hn24 hc25]
    simp only [Zyj,Zyk]
    obtain ⟨p26,hp26,h⟩ := bindo h
    cases h
    exact Zxf (Zzq at_.at_ hp26 (res0 rfl) ⟨rfl,rfl⟩)
   ·rcases ifc h with ⟨hc27,h⟩ | ⟨hc27,h⟩
    ·rw [Zagr hn24 hc27]
     simp only [Zyj,Zyk]
     obtain ⟨p28,hp28,h⟩ := bindo h
     cases h
     exact Zxl rfl at_.at_ hp28 (res0 rfl) ⟨rfl,rfl⟩
    ·cases h
end Y125
namespace Y113
theorem at_ : FnAt Tryz.prog 56 Tryz.f56 := ⟨Tryz.func56,by kernel_rfl⟩
def d0 := (Tryz.f56.body).getD .skip
def r1 := kT d0
def r3 := kT (kB d0)
def c0 : Code := .seq (.region 0 r1 false) (.seq (.region 1 r3 false) .ret)
theorem body : Tryz.f56.body = some c0 := by kernel_rfl
def f (x0 : HV) (x1 : Int) (S : HS) : Option ((HV) × HS) :=
 ((dF x0).bind fun p1 =>
 (letv (HS.new S (.cells 1 [[p1]] true)) fun p2 =>
 (letv (HS.new p2 (.cells 1 [[(.int .i64 x1)]] true)) fun p3 =>
 some ((HV.fn (.func 86) [] [(.ptr (some (HA.cell0 S.next))),(.ptr (some (HA.cell0 p2.next)))]),p3))))
theorem snd {x0 : HV} {x1 : Int}  {p : (HV) × HS} (h : f x0 x1 S = some p) : HC b w e 56 [x0,(.int .i64 x1)] S (RR p.1 p.2) := by
 unfold f at h
 refine HCall.of_run at_.at_ body ?_
 show HR b w e 56 none [.code c0] ⟨[x0,(.int .i64 x1),z,z,z,z],[]⟩ S _
 obtain ⟨p1,hp1,h⟩ := bindo h
 obtain ⟨p2,hp2,h⟩ := leto h
 obtain ⟨p3,hp3,h⟩ := leto h
 refine qT rfl rfl rfl (qS 2 rfl (Zaci · (.tmp rfl) hp1 hp2) (qS 3 rfl (Zyf · (.tmp rfl) (Yav _) rfl hp3) (qS 4 rfl (Zxa · (.const fun _ => .nilFn)) (rE ?_))))
 dsimp only [w0,w1,w2,w3]
 refine qT rfl rfl rfl (qS 5 rfl (Zzh · Evs.nil (ev2 rfl rfl)) (uA 4 rfl rfl (rE ?_)))
 cases h
 exact Zxl rfl at_.at_ rfl (res1 rfl rfl) ⟨rfl,rfl⟩
end Y113
namespace Y114
theorem at_ : FnAt Tryz.prog 15 Tryz.f15 := ⟨Tryz.func15,by kernel_rfl⟩
def d0 := (Tryz.f15.body).getD .skip
def r1 := kT d0
def r3 := kT (kB d0)
def d5 := kY (kB d0)
def r6 := kT d5
def r9 := kT (kY d5)
def d10 := kZ (kB d5)
def r12 := kT (kA d10)
def r15 := kT (kY (kA d10))
def d17 := kY (kY (kA d10))
def r18 := kT d17
def r20 := kT (kB d17)
def r21 := kR (kW (kA d10))
def r23 := kT (kW (kB d0))
def c19 : Code := .block 3 (.region 7 r20 false)
def c18 : Code := .region 6 r18 false
def c10 : Code := .block 1 (.seq (.region 4 r12 false) (.seq (.seq (.region 5 r15 false) (.block 2 (.rangeFunc (.tmp 15) #[16] c18 c19))) (.region 8 r21 false)))
def c9 : Code := .region 3 r9 false
def c0 : Code := .seq (.region 0 r1 false) (.seq (.region 1 r3 false) (.seq (.seq (.region 2 r6 false) (.block 0 (.rangeFunc (.tmp 11) #[12] c9 c10))) (.seq (.region 9 r23 false) .ret)))
theorem body : Tryz.f15.body = some c0 := by kernel_rfl
variable {y5 y7 y12 : HP} {y16_0 : Int} {y16_1 y16_2 : Bool}
def J1 (D : Dp) (H : Hd) (k : Nat) (l : Nat) (y7 : HP) (y16_0 : Int) (y16_1 : Bool) (y16_2 : Bool) (S : HS) : Option (HV × HS) :=
 (letv (HS.new S (.cells 3 [[(.int .i64 0),(.bool false),(.bool false)]] true)) fun p8 =>
 ((p8.sets (HA.cell0 S.next) [(.int .i64 y16_0),(.bool y16_1),(.bool y16_2)]).bind fun p9 =>
 ((p9.begin_ l).bind fun p10 =>
 (y7.bind fun p11 =>
 ((p10.ldP p11).bind fun p12 =>
 ((p10.ldI .i64 (HA.fld (HA.cell0 S.next) 0)).bind fun p13 =>
 (letv (HS.lit p10 [[(.int .i64 p13)]] 1) fun p14 =>
 ((Y11.f k p12 (p14.1) (p14.2)).bind fun p15 =>
 (HS.endr p15.2 l none)))))))))
theorem J1_snd {l : Nat} (hD : DS b w D) (hH : HT b w e H) {p : HV × HS} (h : J1 D H k l y7 y16_0 y16_1 y16_2 S = some p) : HR b w e 15 (some l) [.code c18,.beginRound,.code c19] ⟨[Ga,j,q,m,F,o,N,(.ptr y7),i,a,G,B,M,O,K,A,(.agg [(.int .i64 y16_0),(.bool y16_1),(.bool y16_2)]),E,I,J,L,Q,U,V,Z,c,d,g,r,Kd],[]⟩ S (RR p.1 p.2) := by
 unfold J1 at h
 obtain ⟨p8,hp8,h⟩ := leto h
 obtain ⟨p9,hp9,h⟩ := bindo h
 refine qR rfl rfl (qS 8 rfl (Zx9 · zi62 zr62 (by decide) rfl hp8) (qN rfl (Zxk (v := (.agg [(.int .i64 y16_0),(.bool y16_1),(.bool y16_2)])) · sz62 (.tmp rfl) rfl (.tmp rfl) rfl hp9) (rE ?_)))
 dsimp only [w0,w1,w2,w3]
 obtain ⟨p10,hp10,h⟩ := bindo h
 refine Zaaq hp10 ?_
 obtain ⟨p11,hp11,p12,hp12,p13,hp13,h⟩ := bd3 h
 obtain ⟨p14,hp14,h⟩ := leto h
 refine Zxo rfl (qR rfl rfl (uL 17 rfl sc96 rfl hp11 (Zx0 hp12) (uF 18 rfl Zag7 (by decide) rfl rfl (uL 19 rfl sc3 rfl rfl (Zxq hp13) (qS 20 rfl (Zxp (xs := [(.tmp 19)]) el42 · rfl rfl (by decide) (ev1 rfl) rfl rfl hp14) ?_)))))
 try dsimp only [w0,w1,w2,w3]
 obtain ⟨p15,hp15,h⟩ := bindo h
 refine uQ 21 rfl (.func _) (ev2 rfl rfl) (HInv.static Y11.at_ Y11.body (Y11.snd  hp15)) (rE ?_)
 dsimp only [w0,w1,w2,w3]
 refine Zxf ?_
 exact Zy6 h ⟨rfl,rfl⟩
def J0 (D : Dp) (H : Hd) (k : Nat) (l : Nat) (y5 : HP) (y12 : HP) (S : HS) : Option (HV × HS) :=
 ((S.begin_ l).bind fun p3 =>
 ((Y21.f k Sl.nil p3).bind fun p4 =>
 (letv (HS.new p4.2 (.cells 1 [[(.ptr none)]] true)) fun p5 =>
 ((p5.sets (HA.cell0 p4.2.next) [(.ptr p4.1)]).bind fun p6 =>
 ((Y115.f y12 p6).bind fun p7 =>
 ((p7.2.lp l).bind fun u25 =>
 ((D (Hd.set H (HS.next p7.2) fun vs T =>
 ((T.lp (HS.next p7.2)).bind fun u21 =>
 ((Zaad vs).bind fun ar16 =>
 ((dA3 ar16).bind fun p17 =>
 ((dI .i64 p17.1).bind fun p18 =>
 ((dB p17.2.1).bind fun p19 =>
 ((dB p17.2.2).bind fun p20 =>
 (J1 D H k (HS.next p7.2) (some (HA.cell0 p4.2.next)) p18 p19 p20 T)))))))) p7.1 [.fn (.yield (HS.next p7.2)) [] []] (HS.new p7.2 (.loop .ready none))).bind fun p22 =>
 ((p22.2.finish (HS.next p7.2)).bind fun p23 =>
 ((pcode p23.1).bind fun n24 =>
 (if n24 = 0 then
 (y5.bind fun p27 =>
 ((p23.2.ldSl p27).bind fun p28 =>
 ((p23.2.ldP (HA.cell0 p4.2.next)).bind fun p29 =>
 (letv (HS.lit p23.2 [[(.ptr p29)]] 1) fun p30 =>
 ((p30.2.rows (p30.1) 1).bind fun p31 =>
 ((p30.2.app p28 p31 1).bind fun p32 =>
 (y5.bind fun p33 =>
 ((p32.2.sets p33 [(Sl.hv (p32.1))]).bind fun p34 =>
 (HS.endr p34 l none))))))))) else
 none))))))))))
theorem J0_snd {l : Nat} (hD : DS b w D) (hH : HT b w e H) {p : HV × HS} (h : J0 D H k l y5 y12 S = some p) : HR b w e 15 (some l) [.code c9,.beginRound,.code c10] ⟨[Ga,j,q,m,F,(.ptr y5),N,Gh,i,a,G,B,(.ptr y12),O,K,A,C,E,I,J,L,Q,U,V,Z,c,d,g,r,Kd],[]⟩ S (RR p.1 p.2) := by
 unfold J0 at h
 refine qR rfl rfl (uA 6 rfl rfl (rE ?_))
 dsimp only [w0,w1,w2,w3]
 obtain ⟨p3,hp3,h⟩ := bindo h
 refine Zaaq hp3 ?_
 obtain ⟨p4,hp4,h⟩ := bindo h
 refine Zxo rfl (qT rfl rfl rfl (uQ 13 rfl (.func _) (.cons (.const fun _ => .slNil none) Evs.nil) (HInv.static Y21.at_ Y21.body (Y21.snd  hp4)) ?_))
 obtain ⟨p5,hp5,h⟩ := leto h
 obtain ⟨p6,hp6,h⟩ := bindo h
 refine qS 7 rfl (Zx9 · zi96 zr96 (by decide) rfl hp5) (qN rfl (Zxk (v := (.ptr p4.1)) · sz96 (.tmp rfl) rfl (.tmp rfl) rfl hp6) (rE ?_))
 dsimp only [w0,w1,w2,w3]
 obtain ⟨p7,hp7,h⟩ := bindo h
 refine qQ rfl (qT rfl rfl rfl (uM 14 rfl rfl (uQ 15 rfl (.func _) (ev1 rfl) (HInv.static Y115.at_ Y115.body (Y115.snd  hp7)) (rE ?_))))
 dsimp only [w0,w1,w2,w3]
 obtain ⟨u25,hu25,h⟩ := bindo h
 obtain ⟨p22,hp22,p23,hp23,h⟩ := bd2 h
 obtain ⟨n24,hn24,h⟩ := bindo h
 refine Zxo rfl ?_
 refine Zahi hu25 (D := D) (H := H) rfl (.tmp rfl) hD hH hp22 hp23 ?_ ?_
 ·intro β1 hle hLA vs T u T' hr
  obtain ⟨u21,hu21,hr⟩ := bindo hr
  obtain ⟨ar16,har16,hr⟩ := bindo hr
  obtain ⟨p17,hp17,hr⟩ := bindo hr
  obtain ⟨p18,hp18,hr⟩ := bindo hr
  obtain ⟨p19,hp19,hr⟩ := bindo hr
  obtain ⟨p20,hp20,hr⟩ := bindo hr
  rw [Zy7 har16]
  refine Zzy hLA hu21 rfl rfl ?_
  rw [Zair hp17,Zaa2 hp18,Zaak hp19,Zaak hp20]
  simp only [HAct.params,List.set_cons_zero,List.set_cons_succ]
  exact J1_snd hD (hH.up hle) hr
 ·rcases ifc h with ⟨hc26,h⟩ | ⟨hc26,h⟩
  ·rw [Zabw hn24 hc26]
   simp only [Zyj,Zyk]
   obtain ⟨p27,hp27,p28,hp28,p29,hp29,h⟩ := bd3 h
   obtain ⟨p30,hp30,h⟩ := leto h
   obtain ⟨p31,hp31,p32,hp32,h⟩ := bd2 h
   refine Zxf (qR rfl rfl (uL 22 rfl sc95 rfl hp27 (Zxj hp28) (uL 23 rfl sc96 rfl rfl (Zx0 hp29) (qS 24 rfl (Zxp (xs := [(.tmp 23)]) el95 · rfl rfl (by decide) (ev1 rfl) rfl rfl hp30) (qS 25 rfl (Zx1 (s := p28) (s1 := (p30.1)) el95 · rfl rfl ⟨_,tu95⟩ (.tmp rfl) (.tmp rfl) hp31 hp32) ?_)))))
   try dsimp only [w0,w1,w2,w3]
   obtain ⟨p33,hp33,p34,hp34,h⟩ := bd2 h
   refine qN rfl (Zxk (v := (Sl.hv (p32.1))) · sz95 (.tmp rfl) hp33 (.tmp rfl) rfl hp34) (rE ?_)
   try dsimp only [w0,w1,w2,w3]
   refine Zxf ?_
   exact Zy6 h ⟨rfl,rfl⟩
  ·cases h
def f (D : Dp) (H : Hd) (k : Nat) (x0 : HP) (x1 : Int) (S : HS) : Option ((HV) × HS) :=
 (letv (HS.new S (.cells 1 [[(Sl.hv Sl.nil)]] true)) fun p1 =>
 ((Y12.f D H k x0 x1 p1).bind fun p2 =>
 ((D (Hd.set H (HS.next p2.2 + 1) fun vs T =>
 ((T.lp (HS.next p2.2 + 1)).bind fun u37 =>
 ((Zaad vs).bind fun ar35 =>
 ((dP ar35).bind fun p36 =>
 (J0 D H k (HS.next p2.2 + 1) (some (HA.cell0 S.next)) p36 T))))) p2.1 [.fn (.yield (HS.next p2.2 + 1)) [] []] (HS.new (HS.new p2.2 .defer) (.loop .ready none))).bind fun p38 =>
 ((p38.2.finish (HS.next p2.2 + 1)).bind fun p39 =>
 ((pcode p39.1).bind fun n40 =>
 (if n40 = 0 then
 ((p39.2.ldSl (HA.cell0 S.next)).bind fun p42 =>
 ((Y105.f k p42 p39.2).bind fun p43 =>
 ((Y113.f p43.1 x1 p43.2).bind fun p44 =>
 ((p44.2.leave (HS.next p2.2 :: [])).bind fun p45 =>
 some (p44.1,p45))))) else
 none))))))
theorem snd {x0 : HP} {x1 : Int} (hD : DS b w D) (hH : HT b w e H) {p : (HV) × HS} (h : f D H k x0 x1 S = some p) : HC b w e 15 [(.ptr x0),(.int .i64 x1)] S (RR p.1 p.2) := by
 unfold f at h
 refine HCall.of_run at_.at_ body ?_
 show HR b w e 15 none [.code c0] ⟨[(.ptr x0),(.int .i64 x1),z,z,z,z,z,z,z,z,z,z,z,z,z,z,z,z,z,z,z,z,z,z,z,z,z,z,z,z],[]⟩ S _
 refine qT rfl rfl rfl (qS 4 rfl (Zxa · (.const fun _ => .nilFn)) (rE ?_))
 dsimp only [w0,w1,w2,w3]
 obtain ⟨p1,hp1,h⟩ := leto h
 refine qT rfl rfl rfl (qS 5 rfl (Zx9 · zi95 zr95 (by decide) rfl hp1) (rE ?_))
 dsimp only [w0,w1,w2,w3]
 obtain ⟨p2,hp2,h⟩ := bindo h
 refine qQ rfl (qT rfl rfl rfl (uM 9 rfl rfl (uM 10 rfl rfl (uQ 11 rfl (.func _) (ev2 rfl rfl) (HInv.static Y12.at_ Y12.body (Y12.snd hD hH hp2)) (rE ?_)))))
 dsimp only [w0,w1,w2,w3]
 obtain ⟨p38,hp38,p39,hp39,h⟩ := bd2 h
 obtain ⟨n40,hn40,h⟩ := bindo h
 refine Zxo rfl ?_
 refine Zaa7 (D := D) (H := H) rfl (.tmp rfl) hD hH hp38 hp39 ?_ ?_
 ·intro β1 hle hLA vs T u T' hr
  obtain ⟨u37,hu37,hr⟩ := bindo hr
  obtain ⟨ar35,har35,hr⟩ := bindo hr
  obtain ⟨p36,hp36,hr⟩ := bindo hr
  rw [Zy7 har35]
  refine Zzy hLA hu37 rfl rfl ?_
  rw [Zy3 hp36]
  simp only [HAct.params,List.set_cons_zero,List.set_cons_succ]
  exact J0_snd hD (hH.up hle) hr
 ·rcases ifc h with ⟨hc41,h⟩ | ⟨hc41,h⟩
  ·rw [Zabw hn40 hc41]
   simp only [Zyj,Zyk]
   obtain ⟨p42,hp42,p43,hp43,h⟩ := bd2 h
   refine Zxf (qT rfl rfl rfl (uL 26 rfl sc95 rfl rfl (Zxj hp42) (uQ 27 rfl (.func _) (ev1 rfl) (HInv.static Y105.at_ Y105.body (Y105.snd  hp43)) ?_)))
   obtain ⟨p44,hp44,h⟩ := bindo h
   refine uM 28 rfl rfl (uQ 29 rfl (.func _) (ev2 rfl rfl) (HInv.static Y113.at_ Y113.body (Y113.snd  hp44)) ?_)
   try dsimp only [w0,w1,w2,w3]
   refine uA 4 rfl rfl (rE ?_)
   dsimp only [w0,w1,w2,w3]
   obtain ⟨p45,hp45,h⟩ := bindo h
   cases h
   exact Zxl rfl at_.at_ hp45 (res1 rfl rfl) ⟨rfl,rfl⟩
  ·cases h
end Y114
namespace Y122
theorem at_ : FnAt Tryz.prog 14 Tryz.f14 := ⟨Tryz.func14,by kernel_rfl⟩
def d0 := (Tryz.f14.body).getD .skip
def r1 := kT d0
def r3 := kT (kB d0)
def r6 := kT (kY (kB d0))
def r9 := kT (kY (kY (kB d0)))
def d12 := kW (kB d0)
def r14 := kT (kA d12)
def d16 := kY (kA d12)
def r17 := kT d16
def r21 := kT (kX (kB d16))
def r24 := kT (kY (kX (kB d16)))
def r27 := kR (kZ (kB d16))
def r29 := kT (kB d12)
def c18 : Code := .block 1 (.seq (.seq (.region 6 r21 false) (.cond (.tmp 15) (.seq (.region 7 r24 false) .ret) .skip)) (.region 8 r27 false))
def c17 : Code := .region 5 r17 false
def c0 : Code := .seq (.region 0 r1 false) (.seq (.region 1 r3 false) (.seq (.seq (.region 2 r6 false) (.cond (.tmp 9) (.seq (.region 3 r9 false) .ret) .skip)) (.seq (.seq (.region 4 r14 false) (.block 0 (.rangeFunc (.tmp 10) #[11] c17 c18))) (.seq (.region 9 r29 false) .ret))))
theorem body : Tryz.f14.body = some c0 := by kernel_rfl
variable {y3 y4 y5 y6 : HP} {y11 : Int}
def J0 (D : Dp) (H : Hd) (l : Nat) (y3 : HP) (y4 : HP) (y5 : HP) (y6 : HP) (y11 : Int) (S : HS) : Option (HV × HS) :=
 ((S.begin_ l).bind fun p12 =>
 (y6.bind fun p13 =>
 ((p12.ldSl p13).bind fun p14 =>
 (y3.bind fun p15 =>
 ((p12.ldI .i64 p15).bind fun p16 =>
 (if (Sl.len p14 : Int) ≥ p16 then
 (y4.bind fun p18 =>
 ((p12.sets p18 [(Sl.hv Sl.nil)]).bind fun p19 =>
 (y5.bind fun p20 =>
 ((p19.sets p20 [(.bool false)]).bind fun p21 =>
 (HS.endr p21 l (some .ret)))))) else
 (y6.bind fun p22 =>
 ((p12.ldSl p22).bind fun p23 =>
 (letv (HS.lit p12 [[(.int .i64 y11)]] 1) fun p24 =>
 ((p24.2.rows (p24.1) 1).bind fun p25 =>
 ((p24.2.app p23 p25 1).bind fun p26 =>
 (y6.bind fun p27 =>
 ((p26.2.sets p27 [(Sl.hv (p26.1))]).bind fun p28 =>
 (HS.endr p28 l none))))))))))))))
theorem J0_snd {l : Nat} (hD : DS b w D) (hH : HT b w e H) {p : HV × HS} (h : J0 D H l y3 y4 y5 y6 y11 S = some p) : HR b w e 14 (some l) [.code c17,.beginRound,.code c18] ⟨[Ga,j,q,(.ptr y3),(.ptr y4),(.ptr y5),(.ptr y6),Gh,i,a,G,(.int .i64 y11),M,O,K,A,C,E,I,J,L],[]⟩ S (RR p.1 p.2) := by
 unfold J0 at h
 refine qR rfl rfl (uA 7 rfl rfl (rE ?_))
 dsimp only [w0,w1,w2,w3]
 obtain ⟨p12,hp12,h⟩ := bindo h
 refine Zaaq hp12 ?_
 obtain ⟨p13,hp13,p14,hp14,p15,hp15,p16,hp16,h⟩ := bd4 h
 refine Zxo rfl (qQ rfl (qT rfl rfl rfl (uL 12 rfl sc42 rfl hp13 (Zxj hp14) (qS 13 rfl (Zxg (q := Sl.a p14) (n := Sl.len p14) (z := Sl.cap p14) · rfl tu42 (.tmp rfl)) (uL 14 rfl sc3 rfl hp15 (Zxq hp16) (uB 15 rfl rfl rfl rfl (rE ?_)))))))
 dsimp only [w0,w1,w2,w3]
 rcases ifc h with ⟨hc17,h⟩ | ⟨hc17,h⟩
 ·obtain ⟨p18,hp18,p19,hp19,p20,hp20,p21,hp21,h⟩ := bd4 h
  refine Zxb rfl (.tmp rfl) (decide_eq_true hc17) (qT rfl rfl rfl (qN rfl (Zxk (v := (Sl.hv Sl.nil)) · sz42 (.tmp rfl) hp18 (.const fun _ => .slNil none) rfl hp19) (qN rfl (Zxk (v := (.bool false)) · sz4 (.tmp rfl) hp20 (.bool _) rfl hp21) (rE ?_))))
  try dsimp only [w0,w1,w2,w3]
  exact Zaab rfl h ⟨rfl,rfl⟩
 ·obtain ⟨p22,hp22,p23,hp23,h⟩ := bd2 h
  obtain ⟨p24,hp24,h⟩ := leto h
  obtain ⟨p25,hp25,p26,hp26,h⟩ := bd2 h
  refine Zxc rfl (.tmp rfl) (decide_eq_false hc17) (Zxd rfl (qR rfl rfl (uL 16 rfl sc42 rfl hp22 (Zxj hp23) (uM 17 rfl rfl (qS 18 rfl (Zxp (xs := [(.tmp 17)]) el42 · rfl rfl (by decide) (ev1 rfl) rfl rfl hp24) (qS 19 rfl (Zx1 (s := p23) (s1 := (p24.1)) el42 · rfl rfl ⟨_,tu42⟩ (.tmp rfl) (.tmp rfl) hp25 hp26) ?_))))))
  try dsimp only [w0,w1,w2,w3]
  obtain ⟨p27,hp27,p28,hp28,h⟩ := bd2 h
  refine qN rfl (Zxk (v := (Sl.hv (p26.1))) · sz42 (.tmp rfl) hp27 (.tmp rfl) rfl hp28) (rE ?_)
  try dsimp only [w0,w1,w2,w3]
  refine Zxf ?_
  exact Zy6 h ⟨rfl,rfl⟩
def f (D : Dp) (H : Hd) (x0 : HV) (x1 : Int) (S : HS) : Option ((Sl × Bool) × HS) :=
 (letv (HS.new S (.cells 1 [[(.int .i64 x1)]] true)) fun p1 =>
 (letv (HS.new p1 (.cells 1 [[(Sl.hv Sl.nil)]] true)) fun p2 =>
 (letv (HS.new p2 (.cells 1 [[(.bool false)]] true)) fun p3 =>
 (letv (HS.new p3 (.cells 1 [[(Sl.hv Sl.nil)]] true)) fun p4 =>
 ((HV.isNilFn x0).bind fun p5 =>
 (if (p5) = true then
 ((p4.sets (HA.cell0 p1.next) [(Sl.hv Sl.nil)]).bind fun p7 =>
 ((p7.sets (HA.cell0 p2.next) [(.bool false)]).bind fun p8 =>
 ((p8.leave []).bind fun p9 =>
 ((p9.ldSl (HA.cell0 p1.next)).bind fun p10 =>
 ((p9.ldB (HA.cell0 p2.next)).bind fun p11 =>
 some ((p10,p11),p9)))))) else
 ((D (Hd.set H (HS.next p4 + 1) fun vs T =>
 ((T.lp (HS.next p4 + 1)).bind fun u31 =>
 ((Zaad vs).bind fun ar29 =>
 ((dI .i64 ar29).bind fun p30 =>
 (J0 D H (HS.next p4 + 1) (some (HA.cell0 S.next)) (some (HA.cell0 p1.next)) (some (HA.cell0 p2.next)) (some (HA.cell0 p3.next)) p30 T))))) x0 [.fn (.yield (HS.next p4 + 1)) [] []] (HS.new (HS.new p4 .defer) (.loop .ready none))).bind fun p32 =>
 ((p32.2.finish (HS.next p4 + 1)).bind fun p33 =>
 ((pcode p33.1).bind fun n34 =>
 (if n34 = 0 then
 ((p33.2.ldSl (HA.cell0 p3.next)).bind fun p36 =>
 ((p33.2.sets (HA.cell0 p1.next) [(Sl.hv p36)]).bind fun p37 =>
 ((p37.sets (HA.cell0 p2.next) [(.bool true)]).bind fun p38 =>
 ((p38.leave (HS.next p4 :: [])).bind fun p39 =>
 ((p39.ldSl (HA.cell0 p1.next)).bind fun p40 =>
 ((p39.ldB (HA.cell0 p2.next)).bind fun p41 =>
 some ((p40,p41),p39))))))) else
 (if n34 = 1 then
 ((p33.2.leave (HS.next p4 :: [])).bind fun p43 =>
 ((p43.ldSl (HA.cell0 p1.next)).bind fun p44 =>
 ((p43.ldB (HA.cell0 p2.next)).bind fun p45 =>
 some ((p44,p45),p43)))) else
 none)))))))))))
theorem snd {x0 : HV} {x1 : Int} (hD : DS b w D) (hH : HT b w e H) {p : (Sl × Bool) × HS} (h : f D H x0 x1 S = some p) : HC b w e 14 [x0,(.int .i64 x1)] S (RR (.tup [(Sl.hv p.1.1),(.bool p.1.2)]) p.2) := by
 unfold f at h
 refine HCall.of_run at_.at_ body ?_
 show HR b w e 14 none [.code c0] ⟨[x0,(.int .i64 x1),z,z,z,z,z,z,z,z,z,z,z,z,z,z,z,z,z,z,z],[]⟩ S _
 obtain ⟨p1,hp1,h⟩ := leto h
 obtain ⟨p2,hp2,h⟩ := leto h
 obtain ⟨p3,hp3,h⟩ := leto h
 refine qT rfl rfl rfl (qS 3 rfl (Zyf · (.tmp rfl) (Yav _) rfl hp1) (qS 4 rfl (Zx9 · zi42 zr42 (by decide) rfl hp2) (qS 5 rfl (Zx9 · zi4 zr4 (by decide) rfl hp3) (rE ?_))))
 dsimp only [w0,w1,w2,w3]
 obtain ⟨p4,hp4,h⟩ := leto h
 refine qT rfl rfl rfl (qS 6 rfl (Zx9 · zi42 zr42 (by decide) rfl hp4) (rE ?_))
 dsimp only [w0,w1,w2,w3]
 obtain ⟨p5,hp5,h⟩ := bindo h
 refine qQ rfl (qT rfl rfl rfl (uM 8 rfl rfl (qS 9 rfl (Zacb · tu46 (.tmp rfl) hp5 (.inl ⟨rfl,rfl⟩)) (rE ?_))))
 dsimp only [w0,w1,w2,w3]
 rcases ifc h with ⟨hc6,h⟩ | ⟨hc6,h⟩
 ·obtain ⟨p7,hp7,p8,hp8,h⟩ := bd2 h
  refine Zxb rfl (.tmp rfl) hc6 (qT rfl rfl rfl (qN rfl (Zxk (v := (Sl.hv Sl.nil)) · sz42 (.tmp rfl) rfl (.const fun _ => .slNil none) rfl hp7) (qN rfl (Zxk (v := (.bool false)) · sz4 (.tmp rfl) rfl (.bool _) rfl hp8) (rE ?_))))
  try dsimp only [w0,w1,w2,w3]
  obtain ⟨p9,hp9,p10,hp10,p11,hp11,h⟩ := bd3 h
  cases h
  exact Zxl rfl at_.at_ hp9 (resL (rs := [.cell 4 42,.cell 5 4]) rfl (.cons (.cell rfl rfl sc42 (Zxj hp10)) (.cons (.cell rfl rfl sc4 (Zya hp11)) .nil)) (by simp)) ⟨rfl,rfl⟩
 ·refine Zxc rfl (.tmp rfl) (bfalse hc6) (Zxd rfl (qQ rfl (qT rfl rfl rfl (uM 10 rfl rfl (rE ?_)))))
  dsimp only [w0,w1,w2,w3]
  obtain ⟨p32,hp32,p33,hp33,h⟩ := bd2 h
  obtain ⟨n34,hn34,h⟩ := bindo h
  refine Zxo rfl ?_
  refine Zaa7 (D := D) (H := H) rfl (.tmp rfl) hD hH hp32 hp33 ?_ ?_
  ·intro β1 hle hLA vs T u T' hr
   obtain ⟨u31,hu31,hr⟩ := bindo hr
   obtain ⟨ar29,har29,hr⟩ := bindo hr
   obtain ⟨p30,hp30,hr⟩ := bindo hr
   rw [Zy7 har29]
   refine Zzy hLA hu31 rfl rfl ?_
   rw [Zaa2 hp30]
   simp only [HAct.params,List.set_cons_zero,List.set_cons_succ]
   exact J0_snd hD (hH.up hle) hr
  ·rcases ifc h with ⟨hc35,h⟩ | ⟨hc35,h⟩
   ·rw [Zabw hn34 hc35]
    simp only [Zyj,Zyk]
    obtain ⟨p36,hp36,p37,hp37,p38,hp38,h⟩ := bd3 h
    refine Zxf (qT rfl rfl rfl (uL 20 rfl sc42 rfl rfl (Zxj hp36) (qN rfl (Zxk (v := (Sl.hv p36)) · sz42 (.tmp rfl) rfl (.tmp rfl) rfl hp37) (qN rfl (Zxk (v := (.bool true)) · sz4 (.tmp rfl) rfl (.bool _) rfl hp38) (rE ?_)))))
    dsimp only [w0,w1,w2,w3]
    obtain ⟨p39,hp39,p40,hp40,p41,hp41,h⟩ := bd3 h
    cases h
    exact Zxl rfl at_.at_ hp39 (resL (rs := [.cell 4 42,.cell 5 4]) rfl (.cons (.cell rfl rfl sc42 (Zxj hp40)) (.cons (.cell rfl rfl sc4 (Zya hp41)) .nil)) (by simp)) ⟨rfl,rfl⟩
   ·rcases ifc h with ⟨hc42,h⟩ | ⟨hc42,h⟩
    ·rw [Zagr hn34 hc42]
     simp only [Zyj,Zyk]
     obtain ⟨p43,hp43,p44,hp44,p45,hp45,h⟩ := bd3 h
     cases h
     exact Zxl rfl at_.at_ hp43 (resL (rs := [.cell 4 42,.cell 5 4]) rfl (.cons (.cell rfl rfl sc42 (Zxj hp44)) (.cons (.cell rfl rfl sc4 (Zya hp45)) .nil)) (by simp)) ⟨rfl,rfl⟩
    ·cases h
end Y122
namespace Y111
theorem at_ : FnAt Tryz.prog 16 Tryz.f16 := ⟨Tryz.func16,by kernel_rfl⟩
def d0 := (Tryz.f16.body).getD .skip
def r1 := kT d0
def r4 := kT (kY d0)
def r7 := kT (kY (kY d0))
def d11 := kY (kB d0)
def r12 := kT d11
def d15 := kX (kB d11)
def r17 := kT (kA d15)
def r24 := kT (kX (kB d15))
def r27 := kT (kY (kX (kB d15)))
def r30 := kR (kW d15)
def r32 := kT (kW (kB d0))
def c31 : Code := .seq (.region 8 r32 false) .ret
def c15 : Code := .seq (.seq (.region 4 r17 false) (.cond (.tmp 14) .skip (.exit 0))) (.seq (.block 1 (.seq (.region 6 r24 true) (.cond (.tmp 25) (.seq (.region 7 r27 false) .ret) .skip))) (.region 5 r30 false))
def c0 : Code := .seq (.region 0 r1 false) (.seq (.seq (.region 1 r4 false) (.cond (.tmp 10) (.seq (.region 2 r7 false) .ret) .skip)) (.seq (.seq (.region 3 r12 false) (.block 0 (.loop c15))) c31))
theorem body : Tryz.f16.body = some c0 := by kernel_rfl
def L0 (k : Nat) : Nat → Sl → Sl → Int → HS → Option ((Bool) × HS)
 | 0,_,_,_,_ => none
 | n + 1,y0,y1,y5,S =>
  (if y5 < (Sl.len y0 : Int) then
  ((S.idx y0 y5 1).bind fun p3 =>
  ((S.ldI .i64 p3).bind fun p4 =>
  ((S.idx y1 y5 1).bind fun p5 =>
  ((S.ldI .i64 p5).bind fun p6 =>
  (if (!decide (p4 = p6)) = true then
  some (false,S) else
  (L0 k n) y0 y1 (w64 (y5 + 1)) S))))) else
  some (true,S))
theorem L0_snd  : ∀ {n : Nat} ⦃y0 : Sl⦄ ⦃y1 : Sl⦄ ⦃y5 : Int⦄ ⦃S : HS⦄ ⦃p : (Bool) × HS⦄ ⦃q m F N Gh i a G B M O K A C E I J L Q U V Z c : HV⦄,L0 k n y0 y1 y5 S = some p → HR b w e 16 none [.inLoop c15,.inBlock 0,.code c31] ⟨[(Sl.hv y0),(Sl.hv y1),q,m,F,(.int .i64 y5),N,Gh,i,a,G,B,M,O,K,A,C,E,I,J,L,Q,U,V,Z,c],[]⟩ S (RR (.bool p.1) p.2) := by
 intro n
 induction n with
 | zero => intro _ _ _ _ _ _ _ _ _ _ _ _ _ _ _ _ _ _ _ _ _ _ _ _ _ _ _ _ h; cases h
 | succ n ih =>
  intro y0 y1 y5 S p q m F N Gh i a G B M O K A C E I J L Q U V Z c h
  simp only [L0] at h
  refine Zxz (qQ rfl (qT rfl rfl rfl (uM 11 rfl rfl (uM 12 rfl rfl (qS 13 rfl (Zxg (q := Sl.a y0) (n := Sl.len y0) (z := Sl.cap y0) · rfl tu42 (.tmp rfl)) (uB 14 rfl rfl rfl rfl (rE ?_)))))))
  dsimp only [w0,w1,w2,w3]
  rcases ifc h with ⟨hc2,h⟩ | ⟨hc2,h⟩
  ·refine Zxb rfl (.tmp rfl) (decide_eq_true hc2) (Zxd rfl (qQ rfl (Zxo rfl (qQ rfl ?_))))
   refine Zx8 (cls := [0,0,1,1,0,0,1,1,0]) (rk := [0,1,2,3,4,5,6,7,8]) rfl (by kernel_rfl) ?_
   refine yf 17 [0] rfl (oM · rfl) ?_
   refine yf 18 [5] rfl (oM · rfl) ?_
   obtain ⟨p3,hp3,h⟩ := bindo h
   refine yr 19 [17,18] rfl (oX (s := y0) · tu42 sz3 rfl rfl hp3) ?_
   obtain ⟨p4,hp4,h⟩ := bindo h
   refine yr 20 [19] rfl (oL · sc3 rfl rfl (Zxq hp4)) ?_
   try dsimp only [w0,w1,w2,w3]
   refine yf 21 [1] rfl (oM · rfl) ?_
   refine yf 22 [5] rfl (oM · rfl) ?_
   obtain ⟨p5,hp5,h⟩ := bindo h
   refine yr 23 [21,22] rfl (oX (s := y1) · tu42 sz3 rfl rfl hp5) ?_
   obtain ⟨p6,hp6,h⟩ := bindo h
   refine yr 24 [23] rfl (oL · sc3 rfl rfl (Zxq hp6)) ?_
   try dsimp only [w0,w1,w2,w3]
   refine yf 25 [20,24] rfl (oB · rfl rfl rfl) ?_
   refine Zx5 rfl ?_
   refine rE ?_
   try dsimp only [w0,w1,w2,w3]
   rcases ifc h with ⟨hc7,h⟩ | ⟨hc7,h⟩
   ·refine Zxb rfl (.tmp rfl) hc7 (qT rfl rfl rfl (qS 4 rfl (Zxa · (.bool _)) (rE ?_)))
    cases h
    exact Zxl rfl at_.at_ rfl (res1 rfl rfl) ⟨rfl,rfl⟩
   ·refine Zxc rfl (.tmp rfl) (bfalse hc7) (Zxd rfl (Zxf (qR rfl rfl (uM 15 rfl rfl (uC 16 rfl rfl rfl (uA 5 rfl rfl (rE ?_)))))))
    dsimp only [w0,w1,w2,w3]
    exact ih h
  ·refine Zxc rfl (.tmp rfl) (decide_eq_false hc2) (Zyh rfl rfl (qT rfl rfl rfl (qS 4 rfl (Zxa · (.bool _)) (rE ?_))))
   cases h
   exact Zxl rfl at_.at_ rfl (res1 rfl rfl) ⟨rfl,rfl⟩
def f (k : Nat) (x0 : Sl) (x1 : Sl) (S : HS) : Option ((Bool) × HS) :=
 (if (!decide ((Sl.len x0 : Int) = (Sl.len x1 : Int))) = true then
 some (false,S) else
 L0 k k x0 x1 0 S)
theorem snd {x0 : Sl} {x1 : Sl}  {p : (Bool) × HS} (h : f k x0 x1 S = some p) : HC b w e 16 [(Sl.hv x0),(Sl.hv x1)] S (RR (.bool p.1) p.2) := by
 unfold f at h
 refine HCall.of_run at_.at_ body ?_
 show HR b w e 16 none [.code c0] ⟨[(Sl.hv x0),(Sl.hv x1),z,z,z,z,z,z,z,z,z,z,z,z,z,z,z,z,z,z,z,z,z,z,z,z],[]⟩ S _
 refine qT rfl rfl rfl (qS 4 rfl (Zxa · (.bool _)) (rE ?_))
 dsimp only [w0,w1,w2,w3]
 refine qQ rfl (qT rfl rfl rfl (uM 6 rfl rfl (qS 7 rfl (Zxg (q := Sl.a x0) (n := Sl.len x0) (z := Sl.cap x0) · rfl tu42 (.tmp rfl)) (uM 8 rfl rfl (qS 9 rfl (Zxg (q := Sl.a x1) (n := Sl.len x1) (z := Sl.cap x1) · rfl tu42 (.tmp rfl)) ?_)))))
 try dsimp only [w0,w1,w2,w3]
 refine uB 10 rfl rfl rfl rfl (rE ?_)
 dsimp only [w0,w1,w2,w3]
 rcases ifc h with ⟨hc1,h⟩ | ⟨hc1,h⟩
 ·refine Zxb rfl (.tmp rfl) hc1 (qT rfl rfl rfl (qS 4 rfl (Zxa · (.bool _)) (rE ?_)))
  cases h
  exact Zxl rfl at_.at_ rfl (res1 rfl rfl) ⟨rfl,rfl⟩
 ·refine Zxc rfl (.tmp rfl) (bfalse hc1) (Zxd rfl (qQ rfl (qT rfl rfl rfl (qS 5 rfl (Zxa · (.int _ _)) (rE ?_)))))
  dsimp only [w0,w1,w2,w3]
  refine Zxo rfl (Zye rfl ?_)
  try dsimp only [w0,w1,w2,w3]
  exact L0_snd  h
end Y111
namespace Y41
theorem at_ : FnAt Tryz.prog 27 Tryz.f27 := ⟨Tryz.func27,by kernel_rfl⟩
def d0 := (Tryz.f27.body).getD .skip
def r1 := kT d0
def r4 := kT (kY d0)
def r7 := kT (kY (kY d0))
def r11 := kT (kW d0)
def c0 : Code := .seq (.region 0 r1 false) (.seq (.seq (.region 1 r4 false) (.cond (.tmp 4) (.seq (.region 2 r7 false) .ret) .skip)) (.seq (.region 3 r11 false) .ret))
theorem body : Tryz.f27.body = some c0 := by kernel_rfl
def f (x0 : HP) (S : HS) : Option ((Int) × HS) :=
 (if (Option.isNone x0) = true then
 some (0,S) else
 (x0.bind fun p2 =>
 ((S.ldP (HA.fld p2 15)).bind fun p3 =>
 ((Y35.f p3 S).bind fun p4 =>
 some (p4.1,p4.2)))))
theorem snd {x0 : HP}  {p : (Int) × HS} (h : f x0 S = some p) : HC b w e 27 [(.ptr x0)] S (RR (.int .i64 p.1) p.2) := by
 unfold f at h
 refine HCall.of_run at_.at_ body ?_
 show HR b w e 27 none [.code c0] ⟨[(.ptr x0),z,z,z,z,z,z,z,z,z],[]⟩ S _
 refine qT rfl rfl rfl (qS 2 rfl (Zxa · (.int _ _)) (rE ?_))
 dsimp only [w0,w1,w2,w3]
 refine qQ rfl (qT rfl rfl rfl (uM 3 rfl rfl (qS 4 rfl (Zxt · tu25 (.tmp rfl) (.inl ⟨rfl,rfl⟩)) (rE ?_))))
 dsimp only [w0,w1,w2,w3]
 rcases ifc h with ⟨hc1,h⟩ | ⟨hc1,h⟩
 ·refine Zxb rfl (.tmp rfl) hc1 (qT rfl rfl rfl (qS 2 rfl (Zxa · (.int _ _)) (rE ?_)))
  cases h
  exact Zxl rfl at_.at_ rfl (res1 rfl rfl) ⟨rfl,rfl⟩
 ·obtain ⟨p2,hp2,p3,hp3,h⟩ := bd2 h
  refine Zxc rfl (.tmp rfl) (bfalse hc1) (Zxd rfl (qT rfl rfl rfl (uM 5 rfl rfl (uN 6 rfl rfl hp2 (uF 7 rfl Zab1 (by decide) rfl rfl (uL 8 rfl sc75 rfl rfl (Zx0 hp3) ?_))))))
  try dsimp only [w0,w1,w2,w3]
  obtain ⟨p4,hp4,h⟩ := bindo h
  refine uQ 9 rfl (.func _) (ev1 rfl) (HInv.static Y35.at_ Y35.body (Y35.snd  hp4)) (uA 2 rfl rfl (rE ?_))
  cases h
  exact Zxl rfl at_.at_ rfl (res1 rfl rfl) ⟨rfl,rfl⟩
end Y41
namespace Y99
theorem at_ : FnAt Tryz.prog 7 Tryz.f7 := ⟨Tryz.func7,by kernel_rfl⟩
def d0 := (Tryz.f7.body).getD .skip
def r1 := kT d0
def r3 := kT (kB d0)
def r5 := kT (kW d0)
def d6 := kW (kB d0)
def r7 := kT d6
def r9 := kT (kB d6)
def r11 := kT (kW d6)
def r13 := kT (kW (kB d6))
def r15 := kT (kW (kW d6))
def c16 : Code := .ret
def c0 : Code := .seq (.region 0 r1 false) (.seq (.region 1 r3 false) (.seq (.region 2 r5 false) (.seq (.region 3 r7 false) (.seq (.region 4 r9 false) (.seq (.region 5 r11 false) (.seq (.region 6 r13 false) (.seq (.region 7 r15 false) c16)))))))
theorem body : Tryz.f7.body = some c0 := by kernel_rfl
def J1 (D : Dp) (H : Hd) (k : Nat) (y30 : Bool) (S : HS) : Option ((Bool) × HS) :=
 some (y30,S)
theorem J1_snd (hD : DS b w D) (hH : HT b w e H) {y30 : Bool} {p : (Bool) × HS} (h : J1 D H k y30 S = some p) : HR b w e 7 none [.inRegion r15 [11],.code c16] ⟨[Ga,j,q,m,F,o,N,Gh,i,a,G,B,M,O,K,A,C,E,I,J,L,Q,U,V,Z,c,d,g,r,Kd,(.bool y30)],[]⟩ S (RR (.bool p.1) p.2) := by
 unfold J1 at h
 refine uA 0 rfl rfl (rE ?_)
 cases h
 exact Zxl rfl at_.at_ rfl (res1 rfl rfl) ⟨rfl,rfl⟩
def J0 (D : Dp) (H : Hd) (k : Nat) (y1 : HP) (y25 : Bool) (S : HS) : Option ((Bool) × HS) :=
 (if y25 = true then
 ((Y41.f y1 S).bind fun p12 =>
 J1 D H k (decide (p12.1 = 3)) p12.2) else
 J1 D H k false S)
theorem J0_snd (hD : DS b w D) (hH : HT b w e H) {y1 : HP} {y25 : Bool} {p : (Bool) × HS} (h : J0 D H k y1 y25 S = some p) : HR b w e 7 none [.inRegion r15 [6,7,8,9,10,11],.code c16] ⟨[Ga,(.ptr y1),q,m,F,o,N,Gh,i,a,G,B,M,O,K,A,C,E,I,J,L,Q,U,V,Z,(.bool y25),d,g,r,Kd,Ke],[]⟩ S (RR (.bool p.1) p.2) := by
 unfold J0 at h
 refine uM 26 rfl rfl ?_
 rcases ifc h with ⟨hc11,h⟩ | ⟨hc11,h⟩
 ·refine qG 26 27 rfl hc11 (oM · rfl) ?_
  try dsimp only [w0,w1,w2,w3]
  obtain ⟨p12,hp12,h⟩ := bindo h
  refine Zyp (t := 26) (dst := some 28) rfl rfl rfl hc11 (.func _) (ev1 rfl) (HInv.static Y41.at_ Y41.body (Y41.snd  hp12)) ?_
  rintro _ _ ⟨rfl,rfl⟩
  refine qG 26 29 rfl hc11 (oC · rfl rfl) (qS 30 rfl (Zxh · (.tmp rfl) hc11 (.tmp rfl)) ?_)
  try dsimp only [w0,w1,w2,w3]
  exact J1_snd hD hH h
 ·refine Zxi (dst := some 27) (t := 26) rfl rfl rfl (bfalse hc11) ?_
  try dsimp only [w0,w1,w2,w3]
  refine Zxi (dst := some 28) (t := 26) rfl rfl rfl (bfalse hc11) (Zxi (dst := some 29) (t := 26) rfl rfl rfl (bfalse hc11) (qS 30 rfl (Zxm · (.tmp rfl) (bfalse hc11) (.bool _)) ?_))
  try dsimp only [w0,w1,w2,w3]
  exact J1_snd hD hH h
def f (D : Dp) (H : Hd) (k : Nat) (S : HS) : Option ((Bool) × HS) :=
 ((Y30.f [] [] [] [] 0 0 5 5 5 0 0 0 0 0 0 S).bind fun p1 =>
 ((Y1.f D H k p1.1 1 ([35,97] : List UInt8) p1.2).bind fun p2 =>
 ((Y1.f D H k p1.1 1 ([35,98] : List UInt8) p2.2).bind fun p3 =>
 ((Y1.f D H k p1.1 2 ([35,66] : List UInt8) p3.2).bind fun p4 =>
 ((Y1.f D H k p1.1 3 ([35,99] : List UInt8) p4.2).bind fun p5 =>
 ((Y114.f D H k p1.1 1 p5.2).bind fun p6 =>
 ((Y122.f D H p6.1 9 p6.2).bind fun p7 =>
 (if p7.1.2 = true then
 (letv (HS.lit p7.2 [[(.int .i64 2)]] 1) fun p9 =>
 ((Y111.f k p7.1.1 (p9.1) (p9.2)).bind fun p10 =>
 J0 D H k p1.1 p10.1 p10.2)) else
 J0 D H k p1.1 false p7.2))))))))
theorem snd (hD : DS b w D) (hH : HT b w e H) {p : (Bool) × HS} (h : f D H k S = some p) : HC b w e 7 [] S (RR (.bool p.1) p.2) := by
 unfold f at h
 refine HCall.of_run at_.at_ body ?_
 show HR b w e 7 none [.code c0] ⟨[z,z,z,z,z,z,z,z,z,z,z,z,z,z,z,z,z,z,z,z,z,z,z,z,z,z,z,z,z,z,z],[]⟩ S _
 refine qT rfl rfl rfl (qS 0 rfl (Zxa · (.bool _)) (rE ?_))
 dsimp only [w0,w1,w2,w3]
 obtain ⟨p1,hp1,h⟩ := bindo h
 refine qT rfl rfl rfl (qS 4 rfl (Zy1 (is := [7,6,8]) (xs := [(.const (.int .i64 5)),(.const (.int .i64 5)),(.const (.int .i64 5))]) (r := [(.str []),(.str []),(.str []),(.str []),(.int .i64 0),(.int .i64 0),(.int .i64 5),(.int .i64 5),(.int .i64 5),(.int .i64 0),(.int .i64 0),(.int .i64 0),(.int .i64 0),(.int .i64 0),(.int .i64 0)]) st28 · rfl rfl (.cons (.int _ _) (.cons (.int _ _) (.cons (.int _ _) Evs.nil))) rfl) (uQ 5 rfl (.func _) (ev1 rfl) (HInv.static Y30.at_ Y30.body (Y30.snd  hp1)) (uA 1 rfl rfl (rE ?_))))
 dsimp only [w0,w1,w2,w3]
 obtain ⟨p2,hp2,h⟩ := bindo h
 refine qT rfl rfl rfl (uM 6 rfl rfl (uQ 7 rfl (.func _) (.cons (.tmp rfl) (.cons (.int _ _) (.cons (.str _) Evs.nil))) (HInv.static Y1.at_ Y1.body (Y1.snd hD hH hp2)) (rE ?_)))
 dsimp only [w0,w1,w2,w3]
 obtain ⟨p3,hp3,h⟩ := bindo h
 refine qT rfl rfl rfl (uM 8 rfl rfl (uQ 9 rfl (.func _) (.cons (.tmp rfl) (.cons (.int _ _) (.cons (.str _) Evs.nil))) (HInv.static Y1.at_ Y1.body (Y1.snd hD hH hp3)) (rE ?_)))
 dsimp only [w0,w1,w2,w3]
 obtain ⟨p4,hp4,h⟩ := bindo h
 refine qT rfl rfl rfl (uM 10 rfl rfl (uQ 11 rfl (.func _) (.cons (.tmp rfl) (.cons (.int _ _) (.cons (.str _) Evs.nil))) (HInv.static Y1.at_ Y1.body (Y1.snd hD hH hp4)) (rE ?_)))
 dsimp only [w0,w1,w2,w3]
 obtain ⟨p5,hp5,h⟩ := bindo h
 refine qT rfl rfl rfl (uM 12 rfl rfl (uQ 13 rfl (.func _) (.cons (.tmp rfl) (.cons (.int _ _) (.cons (.str _) Evs.nil))) (HInv.static Y1.at_ Y1.body (Y1.snd hD hH hp5)) (rE ?_)))
 dsimp only [w0,w1,w2,w3]
 obtain ⟨p6,hp6,h⟩ := bindo h
 refine qT rfl rfl rfl (uM 15 rfl rfl (uQ 16 rfl (.func _) (.cons (.tmp rfl) (.cons (.int _ _) Evs.nil)) (HInv.static Y114.at_ Y114.body (Y114.snd hD hH hp6)) ?_))
 obtain ⟨p7,hp7,h⟩ := bindo h
 refine uQ 17 rfl (.func _) (.cons (.tmp rfl) (.cons (.int _ _) Evs.nil)) (HInv.static Y122.at_ Y122.body (Y122.snd hD hH hp7)) (uM 14 rfl rfl ?_)
 try dsimp only [w0,w1,w2,w3]
 refine qS 18 rfl (Zxr · (.tmp rfl) rfl) (qS 19 rfl (Zxr · (.tmp rfl) rfl) (uA 2 rfl rfl (uA 3 rfl rfl (rE ?_))))
 dsimp only [w0,w1,w2,w3]
 refine qT rfl rfl rfl (uM 20 rfl rfl (uM 21 rfl rfl ?_))
 rcases ifc h with ⟨hc8,h⟩ | ⟨hc8,h⟩
 ·obtain ⟨p9,hp9,h⟩ := leto h
  refine qG 21 22 rfl hc8 (oM · rfl) (qG 21 23 rfl hc8 (Zxp (xs := [(.const (.int .i64 2))]) el42 · rfl rfl (by decide) (.cons (.int _ _) Evs.nil) rfl rfl hp9) ?_)
  try dsimp only [w0,w1,w2,w3]
  obtain ⟨p10,hp10,h⟩ := bindo h
  refine Zyp (t := 21) (dst := some 24) rfl rfl rfl hc8 (.func _) (ev2 rfl rfl) (HInv.static Y111.at_ Y111.body (Y111.snd  hp10)) ?_
  rintro _ _ ⟨rfl,rfl⟩
  refine qS 25 rfl (Zxh · (.tmp rfl) hc8 (.tmp rfl)) ?_
  try dsimp only [w0,w1,w2,w3]
  exact J0_snd hD hH h
 ·refine Zxi (dst := some 22) (t := 21) rfl rfl rfl (bfalse hc8) (Zxi (dst := some 23) (t := 21) rfl rfl rfl (bfalse hc8) ?_)
  try dsimp only [w0,w1,w2,w3]
  refine Zxi (dst := some 24) (t := 21) rfl rfl rfl (bfalse hc8) (qS 25 rfl (Zxm · (.tmp rfl) (bfalse hc8) (.bool _)) ?_)
  try dsimp only [w0,w1,w2,w3]
  exact J0_snd hD hH h
end Y99
end
noncomputable section
variable {b : Nat} {w : World} {e : Bt}
variable {S : HS} {D : Dp} {H : Hd} {k : Nat} {Ga j q m F o N Gh i a G B M O K A C E I J L Q U V Z c d g r Kd Ke Kf Kg Kh Ki Kj Kk Kl Km Kn Ko Kp Kq Kr Ks Kt Ku Kv Kw Kx Ky Kz Ma Mb Mc Md Me Mf Mg Mh Mi Mj Mk Ml Mm Mn Mo Mp Mq Mr Ms Mt Mu : HV}
namespace Y51
theorem at_ : FnAt Tryz.prog 8 Tryz.f8 := ⟨Tryz.func8,by kernel_rfl⟩
def d0 := (Tryz.f8.body).getD .skip
def r1 := kT d0
def r4 := kT (kY d0)
def r7 := kT (kY (kY d0))
def d11 := kY (kB d0)
def r12 := kT d11
def d15 := kX (kB d11)
def r17 := kT (kA d15)
def r24 := kT (kX (kB d15))
def r27 := kT (kY (kX (kB d15)))
def r30 := kR (kW d15)
def r32 := kT (kW (kB d0))
def c31 : Code := .seq (.region 8 r32 false) .ret
def c15 : Code := .seq (.seq (.region 4 r17 false) (.cond (.tmp 10) .skip (.exit 0))) (.seq (.block 1 (.seq (.region 6 r24 false) (.cond (.tmp 19) (.seq (.region 7 r27 false) .ret) .skip))) (.region 5 r30 false))
def c0 : Code := .seq (.region 0 r1 false) (.seq (.seq (.region 1 r4 false) (.cond (.tmp 6) (.seq (.region 2 r7 false) .ret) .skip)) (.seq (.seq (.region 3 r12 false) (.block 0 (.loop c15))) c31))
theorem body : Tryz.f8.body = some c0 := by kernel_rfl
def L0 (k : Nat) : Nat → Sl → Int → HS → Option ((Bool) × HS)
 | 0,_,_,_ => none
 | n + 1,y0,y3,S =>
  (if y3 < (Sl.len y0 : Int) then
  ((S.idx y0 y3 3).bind fun p3 =>
  ((S.ldS (HA.fld p3 2)).bind fun p4 =>
  (if (List.length p4 : Int) > 60 then
  some (true,S) else
  (L0 k n) y0 (w64 (y3 + 1)) S))) else
  some (false,S))
theorem L0_snd  : ∀ {n : Nat} ⦃y0 : Sl⦄ ⦃y3 : Int⦄ ⦃S : HS⦄ ⦃p : (Bool) × HS⦄ ⦃j q F o N Gh i a G B M O K A C E I J : HV⦄,L0 k n y0 y3 S = some p → HR b w e 8 none [.inLoop c15,.inBlock 0,.code c31] ⟨[(Sl.hv y0),j,q,(.int .i64 y3),F,o,N,Gh,i,a,G,B,M,O,K,A,C,E,I,J],[]⟩ S (RR (.bool p.1) p.2) := by
 intro n
 induction n with
 | zero => intro _ _ _ _ _ _ _ _ _ _ _ _ _ _ _ _ _ _ _ _ _ _ h; cases h
 | succ n ih =>
  intro y0 y3 S p j q F o N Gh i a G B M O K A C E I J h
  simp only [L0] at h
  refine Zxz (qQ rfl (qT rfl rfl rfl (uM 7 rfl rfl (uM 8 rfl rfl (qS 9 rfl (Zxg (q := Sl.a y0) (n := Sl.len y0) (z := Sl.cap y0) · rfl tu22 (.tmp rfl)) (uB 10 rfl rfl rfl rfl (rE ?_)))))))
  dsimp only [w0,w1,w2,w3]
  rcases ifc h with ⟨hc2,h⟩ | ⟨hc2,h⟩
  ·obtain ⟨p3,hp3,h⟩ := bindo h
   refine Zxb rfl (.tmp rfl) (decide_eq_true hc2) (Zxd rfl (qQ rfl (Zxo rfl (qT rfl rfl rfl (uM 13 rfl rfl (uM 14 rfl rfl (qS 15 rfl (oX (s := y0) · tu22 sz34 rfl rfl hp3) (uF 16 rfl Zac0 (by decide) rfl rfl ?_))))))))
   try dsimp only [w0,w1,w2,w3]
   obtain ⟨p4,hp4,h⟩ := bindo h
   refine uL 17 rfl sc9 rfl rfl (Zx4 hp4) (qS 18 rfl (Zyw · rfl tu9 (.tmp rfl)) (uC 19 rfl rfl rfl (rE ?_)))
   dsimp only [w0,w1,w2,w3]
   rcases ifc h with ⟨hc5,h⟩ | ⟨hc5,h⟩
   ·refine Zxb rfl (.tmp rfl) (decide_eq_true hc5) (qT rfl rfl rfl (qS 2 rfl (Zxa · (.bool _)) (rE ?_)))
    cases h
    exact Zxl rfl at_.at_ rfl (res1 rfl rfl) ⟨rfl,rfl⟩
   ·refine Zxc rfl (.tmp rfl) (decide_eq_false hc5) (Zxd rfl (Zxf (qR rfl rfl (uM 11 rfl rfl (uC 12 rfl rfl rfl (uA 3 rfl rfl (rE ?_)))))))
    dsimp only [w0,w1,w2,w3]
    exact ih h
  ·refine Zxc rfl (.tmp rfl) (decide_eq_false hc2) (Zyh rfl rfl (qT rfl rfl rfl (qS 2 rfl (Zxa · (.bool _)) (rE ?_))))
   cases h
   exact Zxl rfl at_.at_ rfl (res1 rfl rfl) ⟨rfl,rfl⟩
def f (k : Nat) (x0 : Sl) (S : HS) : Option ((Bool) × HS) :=
 (if (Sl.len x0 : Int) > 40 then
 some (true,S) else
 L0 k k x0 0 S)
theorem snd {x0 : Sl}  {p : (Bool) × HS} (h : f k x0 S = some p) : HC b w e 8 [(Sl.hv x0)] S (RR (.bool p.1) p.2) := by
 unfold f at h
 refine HCall.of_run at_.at_ body ?_
 show HR b w e 8 none [.code c0] ⟨[(Sl.hv x0),z,z,z,z,z,z,z,z,z,z,z,z,z,z,z,z,z,z,z],[]⟩ S _
 refine qT rfl rfl rfl (qS 2 rfl (Zxa · (.bool _)) (rE ?_))
 dsimp only [w0,w1,w2,w3]
 refine qQ rfl (qT rfl rfl rfl (uM 4 rfl rfl (qS 5 rfl (Zxg (q := Sl.a x0) (n := Sl.len x0) (z := Sl.cap x0) · rfl tu22 (.tmp rfl)) (uC 6 rfl rfl rfl (rE ?_)))))
 dsimp only [w0,w1,w2,w3]
 rcases ifc h with ⟨hc1,h⟩ | ⟨hc1,h⟩
 ·refine Zxb rfl (.tmp rfl) (decide_eq_true hc1) (qT rfl rfl rfl (qS 2 rfl (Zxa · (.bool _)) (rE ?_)))
  cases h
  exact Zxl rfl at_.at_ rfl (res1 rfl rfl) ⟨rfl,rfl⟩
 ·refine Zxc rfl (.tmp rfl) (decide_eq_false hc1) (Zxd rfl (qQ rfl (qT rfl rfl rfl (qS 3 rfl (Zxa · (.int _ _)) (rE ?_)))))
  dsimp only [w0,w1,w2,w3]
  refine Zxo rfl (Zye rfl ?_)
  try dsimp only [w0,w1,w2,w3]
  exact L0_snd  h
end Y51
namespace Y33
theorem at_ : FnAt Tryz.prog 31 Tryz.f31 := ⟨Tryz.func31,by kernel_rfl⟩
def d0 := (Tryz.f31.body).getD .skip
def r1 := kT d0
def r4 := kT (kY d0)
def r7 := kT (kY (kY d0))
def r11 := kT (kW d0)
def c0 : Code := .seq (.region 0 r1 false) (.seq (.seq (.region 1 r4 false) (.cond (.tmp 7) (.seq (.region 2 r7 false) .ret) .skip)) (.seq (.region 3 r11 false) .ret))
theorem body : Tryz.f31.body = some c0 := by kernel_rfl
def f (D : Dp) (H : Hd) (k : Nat) (x0 : HP) (x1 : (List UInt8)) (S : HS) : Option ((HP × Bool) × HS) :=
 (if (Option.isNone x0) = true then
 some ((none,false),S) else
 (x0.bind fun p2 =>
 ((S.ldP (HA.fld p2 15)).bind fun p3 =>
 ((Y15.f D H k p3 x1 S).bind fun p4 =>
 some ((p4.1.1,p4.1.2),p4.2)))))
theorem snd {x0 : HP} {x1 : (List UInt8)} (hD : DS b w D) (hH : HT b w e H) {p : (HP × Bool) × HS} (h : f D H k x0 x1 S = some p) : HC b w e 31 [(.ptr x0),(.str x1)] S (RR (.tup [(.ptr p.1.1),(.bool p.1.2)]) p.2) := by
 unfold f at h
 refine HCall.of_run at_.at_ body ?_
 show HR b w e 31 none [.code c0] ⟨[(.ptr x0),(.str x1),z,z,z,z,z,z,z,z,z,z,z,z,z,z],[]⟩ S _
 refine qT rfl rfl rfl (qS 4 rfl (Zxa · (.const fun _ => .ptrNil)) (qS 5 rfl (Zxa · (.bool _)) (rE ?_)))
 dsimp only [w0,w1,w2,w3]
 refine qQ rfl (qT rfl rfl rfl (uM 6 rfl rfl (qS 7 rfl (Zxt · tu25 (.tmp rfl) (.inl ⟨rfl,rfl⟩)) (rE ?_))))
 dsimp only [w0,w1,w2,w3]
 rcases ifc h with ⟨hc1,h⟩ | ⟨hc1,h⟩
 ·refine Zxb rfl (.tmp rfl) hc1 (qT rfl rfl rfl (qS 4 rfl (Zxa · (.const fun _ => .ptrNil)) (qS 5 rfl (Zxa · (.bool _)) (rE ?_))))
  cases h
  exact Zxl rfl at_.at_ rfl (res2 rfl rfl rfl) ⟨rfl,rfl⟩
 ·obtain ⟨p2,hp2,p3,hp3,h⟩ := bd2 h
  refine Zxc rfl (.tmp rfl) (bfalse hc1) (Zxd rfl (qT rfl rfl rfl (uM 8 rfl rfl (uN 9 rfl rfl hp2 (uF 10 rfl Zab1 (by decide) rfl rfl (uL 11 rfl sc75 rfl rfl (Zx0 hp3) ?_))))))
  try dsimp only [w0,w1,w2,w3]
  obtain ⟨p4,hp4,h⟩ := bindo h
  refine uM 12 rfl rfl (uQ 13 rfl (.func _) (ev2 rfl rfl) (HInv.static Y15.at_ Y15.body (Y15.snd hD hH hp4)) (qS 14 rfl (Zxr · (.tmp rfl) rfl) (qS 15 rfl (Zxr · (.tmp rfl) rfl) ?_)))
  try dsimp only [w0,w1,w2,w3]
  refine uA 4 rfl rfl (uA 5 rfl rfl (rE ?_))
  cases h
  exact Zxl rfl at_.at_ rfl (res2 rfl rfl rfl) ⟨rfl,rfl⟩
end Y33
namespace Y128
theorem at_ : FnAt Tryz.prog 123 Tryz.f123 := ⟨Tryz.func123,by kernel_rfl⟩
def d0 := (Tryz.f123.body).getD .skip
def r1 := kT d0
def r3 := kT (kB d0)
def r6 := kT (kY (kB d0))
def r9 := kT (kY (kY (kB d0)))
def d12 := kW (kB d0)
def r13 := kT d12
def r15 := kT (kB d12)
def r17 := kT (kW d12)
def r19 := kT (kW (kB d12))
def c0 : Code := .seq (.region 0 r1 false) (.seq (.region 1 r3 false) (.seq (.seq (.region 2 r6 false) (.cond (.tmp 16) (.seq (.region 3 r9 false) .ret) .skip)) (.seq (.region 4 r13 false) (.seq (.region 5 r15 true) (.seq (.region 6 r17 false) (.seq (.region 7 r19 false) .ret))))))
theorem body : Tryz.f123.body = some c0 := by kernel_rfl
def f (x0 : Sl) (x1 : Int) (x2 : Int) (S : HS) : Option ((Sl) × HS) :=
 ((S.cut3 x0 x1 x2 (Sl.len x0 : Int) 1).bind fun p1 =>
 (if x1 = x2 then
 some (x0,S) else
 ((S.cut x0 0 x1 1).bind fun p3 =>
 ((S.cut x0 x2 (Sl.len x0 : Int) 1).bind fun p4 =>
 ((S.rows p4 1).bind fun p5 =>
 ((S.app p3 p5 1).bind fun p6 =>
 ((p6.2.cut (p6.1) (Sl.len (p6.1) : Int) (Sl.len x0 : Int) 1).bind fun p7 =>
 ((p6.2.over p7 (List.replicate (Sl.len p7) [(.str [])]) 1).bind fun p8 =>
 some ((p6.1),p8)))))))))
theorem snd {x0 : Sl} {x1 : Int} {x2 : Int}  {p : (Sl) × HS} (h : f x0 x1 x2 S = some p) : HC b w e 123 [(Sl.hv x0),(.int .i64 x1),(.int .i64 x2)] S (RR (Sl.hv p.1) p.2) := by
 unfold f at h
 refine HCall.of_run at_.at_ body ?_
 show HR b w e 123 none [.code c0] ⟨[(Sl.hv x0),(.int .i64 x1),(.int .i64 x2),z,z,z,z,z,z,z,z,z,z,z,z,z,z,z,z,z,z,z,z,z,z,z,z,z,z,z,z,z,z],[]⟩ S _
 refine qT rfl rfl rfl (qS 6 rfl (Zxa · (.const fun _ => .slNil none)) (rE ?_))
 dsimp only [w0,w1,w2,w3]
 refine qT rfl rfl rfl (uM 8 rfl rfl (uM 9 rfl rfl (uM 10 rfl rfl (uM 11 rfl rfl ?_))))
 try dsimp only [w0,w1,w2,w3]
 obtain ⟨p1,hp1,h⟩ := bindo h
 refine qS 12 rfl (Zxg (q := Sl.a x0) (n := Sl.len x0) (z := Sl.cap x0) · rfl tu57 (.tmp rfl)) (qS 13 rfl (Zabh (kl := .i64) (kh := .i64) (s := x0) (l := x1) (h := x2) · tu57 si9 (.tmp rfl) (.inr ⟨_,rfl,(.tmp rfl)⟩) (.inr ⟨_,rfl,(.tmp rfl)⟩) (.tmp rfl) hp1) (rE ?_))
 dsimp only [w0,w1,w2,w3]
 refine qQ rfl (qT rfl rfl rfl (uM 14 rfl rfl (uM 15 rfl rfl (uB 16 rfl rfl rfl rfl (rE ?_)))))
 dsimp only [w0,w1,w2,w3]
 rcases ifc h with ⟨hc2,h⟩ | ⟨hc2,h⟩
 ·refine Zxb rfl (.tmp rfl) (decide_eq_true hc2) (qT rfl rfl rfl (uM 17 rfl rfl (uA 6 rfl rfl (rE ?_))))
  cases h
  exact Zxl rfl at_.at_ rfl (res1 rfl rfl) ⟨rfl,rfl⟩
 ·refine Zxc rfl (.tmp rfl) (decide_eq_false hc2) (Zxd rfl (qT rfl rfl rfl (uM 18 rfl rfl (qS 19 rfl (Zxg (q := Sl.a x0) (n := Sl.len x0) (z := Sl.cap x0) · rfl tu57 (.tmp rfl)) (uA 7 rfl rfl (rE ?_))))))
  dsimp only [w0,w1,w2,w3]
  refine qQ rfl ?_
  refine Zx8 (cls := [0,0,1,0,0,1,2,0]) (rk := [0,1,2,3,4,5,6,7]) rfl (by kernel_rfl) ?_
  refine yf 20 [0] rfl (oM · rfl) ?_
  refine yf 21 [1] rfl (oM · rfl) ?_
  obtain ⟨p3,hp3,h⟩ := bindo h
  refine yr 22 [20,21] rfl (Zxn (kl := .i64) (kh := .i64) (s := x0) (l := 0) (h := x1) · tu57 si9 (.tmp rfl) (.inl ⟨rfl,rfl⟩) (.inr ⟨_,rfl,(.tmp rfl)⟩) hp3) ?_
  refine yf 23 [0] rfl (oM · rfl) ?_
  try dsimp only [w0,w1,w2,w3]
  refine yf 24 [2] rfl (oM · rfl) ?_
  obtain ⟨p4,hp4,h⟩ := bindo h
  refine yr 25 [23,24] rfl (Zxn (kl := .i64) (kh := .i64) (s := x0) (l := x2) (h := (Sl.len x0 : Int)) · tu57 si9 (.tmp rfl) (.inr ⟨_,rfl,(.tmp rfl)⟩) (.inl ⟨rfl,rfl⟩) hp4) ?_
  obtain ⟨p5,hp5,p6,hp6,h⟩ := bd2 h
  refine ye 26 [22,25] rfl (Zx1 (s := p3) (s1 := p4) el57 · rfl rfl ⟨_,tu57⟩ (.tmp rfl) (.tmp rfl) hp5 hp6) ?_
  refine yf 0 [26] rfl (oA · rfl) ?_
  refine Zx5 rfl ?_
  refine rE ?_
  try dsimp only [w0,w1,w2,w3]
  refine qT rfl rfl rfl (uM 27 rfl rfl (uM 28 rfl rfl (qS 29 rfl (Zxg (q := Sl.a (p6.1)) (n := Sl.len (p6.1)) (z := Sl.cap (p6.1)) · rfl tu57 (.tmp rfl)) (uM 30 rfl rfl ?_))))
  try dsimp only [w0,w1,w2,w3]
  obtain ⟨p7,hp7,p8,hp8,h⟩ := bd2 h
  refine qS 31 rfl (Zxn (kl := .i64) (kh := .i64) (s := (p6.1)) (l := (Sl.len (p6.1) : Int)) (h := (Sl.len x0 : Int)) · tu57 si9 (.tmp rfl) (.inr ⟨_,rfl,(.tmp rfl)⟩) (.inr ⟨_,rfl,(.tmp rfl)⟩) hp7) (qN rfl (Zab8 (s := p7) el57 · rfl (.tmp rfl) hp8) (rE ?_))
  dsimp only [w0,w1,w2,w3]
  refine qT rfl rfl rfl (uM 32 rfl rfl (uA 6 rfl rfl (rE ?_)))
  cases h
  exact Zxl rfl at_.at_ rfl (res1 rfl rfl) ⟨rfl,rfl⟩
end Y128
namespace Y102
theorem at_ : FnAt Tryz.prog 123 Tryz.f123 := Y128.at_
theorem body : Tryz.f123.body = some Y128.c0 := Y128.body
def f (x0 : Sl) (x1 : Int) (x2 : Int) (S : HS) : Option ((Sl) × HS) := HS.del S x0 x1 x2 1
theorem snd {b : Nat} {w : World} {e : Bt} {x0 : Sl} {x1 x2 : Int} {p : (Sl) × HS} (h : f x0 x1 x2 S = some p) : HC b w e 123 [(Sl.hv x0),(.int .i64 x1),(.int .i64 x2)] S (RR (Sl.hv p.1) p.2) :=
 Zad1 (zr := [(.str [])]) (fun _ _ _ h => Y128.snd h) h
end Y102
namespace Y42
theorem at_ : FnAt Tryz.prog 100 Tryz.f100 := ⟨Tryz.func100,by kernel_rfl⟩
def d0 := (Tryz.f100.body).getD .skip
def r1 := kT d0
def r3 := kT (kB d0)
def r6 := kT (kY (kB d0))
def r9 := kT (kY (kY (kB d0)))
def d12 := kW (kB d0)
def r14 := kT (kA d12)
def d16 := kY (kA d12)
def r18 := kT (kA d16)
def d23 := kW (kA d16)
def r26 := kT (kX d23)
def d27 := kZ (kA d23)
def r28 := kT d27
def r30 := kT (kB d27)
def r33 := kT (kY (kB d27))
def r34 := kR (kZ (kW d27))
def r36 := kR (kB d23)
def r38 := kT (kB d12)
def c37 : Code := .seq (.region 12 r38 false) .ret
def c36 : Code := .region 11 r36 false
def c17 : Code := .seq (.region 5 r18 false) (.seq (.cond (.tmp 15) .skip (.exit 0)) (.seq (.block 1 (.seq (.region 6 r26 false) (.seq (.region 7 r28 false) (.seq (.region 8 r30 false) (.cond (.tmp 27) (.seq (.region 9 r33 false) (.region 10 r34 false)) .skip))))) c36))
def c0 : Code := .seq (.region 0 r1 false) (.seq (.region 1 r3 false) (.seq (.seq (.region 2 r6 false) (.cond (.tmp 11) (.seq (.region 3 r9 false) .ret) .skip)) (.seq (.seq (.region 4 r14 false) (.block 0 (.loop c17))) c37)))
theorem body : Tryz.f100.body = some c0 := by kernel_rfl
variable {y0 : HP} {y5 y13 y14 : Int} {y12 : Sl}
def J1 (k : Nat) (rec0 : HP → Int → Sl → Int → Int → HS → Option ((Int) × HS)) (y0 : HP) (y5 : Int) (y12 : Sl) (y13 : Int) (y14 : Int) (S : HS) : Option ((Int) × HS) :=
 rec0 y0 y5 y12 y13 (w64 (y14 + 1)) S
theorem J1_snd {rec0 : HP → Int → Sl → Int → Int → HS → Option ((Int) × HS)} (hrec0 : ∀ ⦃y0 : HP⦄ ⦃y5 : Int⦄ ⦃y12 : Sl⦄ ⦃y13 : Int⦄ ⦃y14 : Int⦄ ⦃S : HS⦄ ⦃p : (Int) × HS⦄ ⦃j q m F N Gh i a G B A C E I J L Q U V Z c d g r Kd Ke Kf Kg Kh Ki Kj Kk Kl Km Kn Ko Kp Kq : HV⦄,rec0 y0 y5 y12 y13 y14 S = some p → HR b w e 100 none [.inLoop c17,.inBlock 0,.code c37] ⟨[(.ptr y0),j,q,m,F,(.int .i64 y5),N,Gh,i,a,G,B,(Sl.hv y12),(.int .i64 y13),(.int .i64 y14),A,C,E,I,J,L,Q,U,V,Z,c,d,g,r,Kd,Ke,Kf,Kg,Kh,Ki,Kj,Kk,Kl,Km,Kn,Ko,Kp,Kq],[]⟩ S (RR (.int .i64 p.1) p.2)) {p : (Int) × HS} (h : J1 k rec0 y0 y5 y12 y13 y14 S = some p) : HR b w e 100 none [.code c36,.inLoop c17,.inBlock 0,.code c37] ⟨[(.ptr y0),j,q,m,F,(.int .i64 y5),N,Gh,i,a,G,B,(Sl.hv y12),(.int .i64 y13),(.int .i64 y14),A,C,E,I,J,L,Q,U,V,Z,c,d,g,r,Kd,Ke,Kf,Kg,Kh,Ki,Kj,Kk,Kl,Km,Kn,Ko,Kp,Kq],[]⟩ S (RR (.int .i64 p.1) p.2) := by
 unfold J1 at h
 refine qR rfl rfl (uC 41 rfl rfl rfl (uM 14 rfl rfl (rE ?_)))
 dsimp only [w0,w1,w2,w3]
 exact hrec0 h
def L0 (k : Nat) : Nat → HP → Int → Sl → Int → Int → HS → Option ((Int) × HS)
 | 0,_,_,_,_,_,_ => none
 | n + 1,y0,y5,y12,y13,y14,S =>
  (if y14 < y13 then
  ((S.idx y12 y14 1).bind fun p3 =>
  ((S.ldS p3).bind fun p4 =>
  (y0.bind fun p5 =>
  ((S.ldSl (HA.fld p5 0)).bind fun p6 =>
  ((Y3.f k p6 p4 S).bind fun p7 =>
  (if p7.1.2 = true then
  (y0.bind fun p9 =>
  ((p7.2.ldSl (HA.fld p9 0)).bind fun p10 =>
  ((Y102.f p10 p7.1.1 (w64 (p7.1.1 + 1)) p7.2).bind fun p11 =>
  (y0.bind fun p12 =>
  ((p11.2.sets (HA.fld p12 0) [(Sl.hv p11.1)]).bind fun p13 =>
  J1 k (L0 k n) y0 (w64 (y5 + 1)) y12 y13 y14 p13))))) else
  J1 k (L0 k n) y0 y5 y12 y13 y14 p7.2)))))) else
  some (y5,S))
theorem L0_snd  : ∀ {n : Nat} ⦃y0 : HP⦄ ⦃y5 : Int⦄ ⦃y12 : Sl⦄ ⦃y13 : Int⦄ ⦃y14 : Int⦄ ⦃S : HS⦄ ⦃p : (Int) × HS⦄ ⦃j q m F N Gh i a G B A C E I J L Q U V Z c d g r Kd Ke Kf Kg Kh Ki Kj Kk Kl Km Kn Ko Kp Kq : HV⦄,L0 k n y0 y5 y12 y13 y14 S = some p → HR b w e 100 none [.inLoop c17,.inBlock 0,.code c37] ⟨[(.ptr y0),j,q,m,F,(.int .i64 y5),N,Gh,i,a,G,B,(Sl.hv y12),(.int .i64 y13),(.int .i64 y14),A,C,E,I,J,L,Q,U,V,Z,c,d,g,r,Kd,Ke,Kf,Kg,Kh,Ki,Kj,Kk,Kl,Km,Kn,Ko,Kp,Kq],[]⟩ S (RR (.int .i64 p.1) p.2) := by
 intro n
 induction n with
 | zero => intro _ _ _ _ _ _ _ _ _ _ _ _ _ _ _ _ _ _ _ _ _ _ _ _ _ _ _ _ _ _ _ _ _ _ _ _ _ _ _ _ _ _ _ _ _ h; cases h
 | succ n ih =>
  intro y0 y5 y12 y13 y14 S p j q m F N Gh i a G B A C E I J L Q U V Z c d g r Kd Ke Kf Kg Kh Ki Kj Kk Kl Km Kn Ko Kp Kq h
  simp only [L0] at h
  refine Zxz (qT rfl rfl rfl (uB 15 rfl rfl rfl rfl (rE ?_)))
  dsimp only [w0,w1,w2,w3]
  refine qQ rfl ?_
  rcases ifc h with ⟨hc2,h⟩ | ⟨hc2,h⟩
  ·obtain ⟨p3,hp3,p4,hp4,h⟩ := bd2 h
   refine Zxb rfl (.tmp rfl) (decide_eq_true hc2) (Zxd rfl (qQ rfl (Zxo rfl (qT rfl rfl rfl (qS 16 rfl (oX (s := y12) · tu57 sz9 rfl rfl hp3) (uL 17 rfl sc9 rfl rfl (Zx4 hp4) (uA 7 rfl rfl (rE ?_))))))))
   dsimp only [w0,w1,w2,w3]
   obtain ⟨p5,hp5,p6,hp6,h⟩ := bd2 h
   refine qT rfl rfl rfl (uM 19 rfl rfl (uN 20 rfl rfl hp5 (uF 21 rfl Zaai (by decide) rfl rfl (uL 22 rfl sc57 rfl rfl (Zxj hp6) ?_))))
   try dsimp only [w0,w1,w2,w3]
   obtain ⟨p7,hp7,h⟩ := bindo h
   refine uM 23 rfl rfl (uQ 24 rfl (.func _) (ev2 rfl rfl) (HInv.static Y3.at_ Y3.body (Y3.snd  hp7)) (uM 18 rfl rfl (qS 25 rfl (Zxr · (.tmp rfl) rfl) ?_)))
   try dsimp only [w0,w1,w2,w3]
   refine qS 26 rfl (Zxr · (.tmp rfl) rfl) (uA 8 rfl rfl (uA 9 rfl rfl (rE ?_)))
   dsimp only [w0,w1,w2,w3]
   refine qT rfl rfl rfl (uM 27 rfl rfl (rE ?_))
   dsimp only [w0,w1,w2,w3]
   rcases ifc h with ⟨hc8,h⟩ | ⟨hc8,h⟩
   ·obtain ⟨p9,hp9,h⟩ := bindo h
    refine Zxb rfl (.tmp rfl) hc8 (qT rfl rfl rfl (uM 28 rfl rfl (uM 29 rfl rfl (uN 30 rfl rfl hp9 (uF 31 rfl Zaai (by decide) rfl rfl ?_)))))
    try dsimp only [w0,w1,w2,w3]
    obtain ⟨p10,hp10,h⟩ := bindo h
    refine uL 32 rfl sc57 rfl rfl (Zxj hp10) (uM 33 rfl rfl (uM 34 rfl rfl (uC 35 rfl rfl rfl ?_)))
    try dsimp only [w0,w1,w2,w3]
    obtain ⟨p11,hp11,h⟩ := bindo h
    refine uQ 36 rfl (.func _) (ev3 rfl rfl rfl) (HInv.static Y102.at_ Y102.body (Y102.snd  hp11)) ?_
    obtain ⟨p12,hp12,p13,hp13,h⟩ := bd2 h
    refine uN 37 rfl rfl hp12 (uF 38 rfl Zaai (by decide) rfl rfl (qN rfl (Zxk (v := (Sl.hv p11.1)) · sz57 (.tmp rfl) rfl (.tmp rfl) rfl hp13) (rE ?_)))
    dsimp only [w0,w1,w2,w3]
    refine qR rfl rfl (uM 39 rfl rfl (uC 40 rfl rfl rfl (uA 5 rfl rfl (rE ?_))))
    dsimp only [w0,w1,w2,w3]
    refine Zxf ?_
    try dsimp only [w0,w1,w2,w3]
    exact J1_snd ih h
   ·refine Zxc rfl (.tmp rfl) (bfalse hc8) (Zxd rfl (Zxf ?_))
    try dsimp only [w0,w1,w2,w3]
    exact J1_snd ih h
  ·refine Zxc rfl (.tmp rfl) (decide_eq_false hc2) (Zyh rfl rfl (qT rfl rfl rfl (uM 42 rfl rfl (uA 4 rfl rfl (rE ?_)))))
   cases h
   exact Zxl rfl at_.at_ rfl (res1 rfl rfl) ⟨rfl,rfl⟩
def f (k : Nat) (x0 : HP) (x1 : Sl) (S : HS) : Option ((Int) × HS) :=
 (if (Option.isNone x0) = true then
 some (0,S) else
 L0 k k x0 0 x1 (Sl.len x1 : Int) 0 S)
theorem snd {x0 : HP} {x1 : Sl}  {p : (Int) × HS} (h : f k x0 x1 S = some p) : HC b w e 100 [(.ptr x0),(Sl.hv x1)] S (RR (.int .i64 p.1) p.2) := by
 unfold f at h
 refine HCall.of_run at_.at_ body ?_
 show HR b w e 100 none [.code c0] ⟨[(.ptr x0),(Sl.hv x1),z,z,z,z,z,z,z,z,z,z,z,z,z,z,z,z,z,z,z,z,z,z,z,z,z,z,z,z,z,z,z,z,z,z,z,z,z,z,z,z,z],[]⟩ S _
 refine qT rfl rfl rfl (qS 4 rfl (Zxa · (.int _ _)) (rE ?_))
 dsimp only [w0,w1,w2,w3]
 refine qT rfl rfl rfl (qS 5 rfl (Zxa · (.int _ _)) (rE ?_))
 dsimp only [w0,w1,w2,w3]
 refine qQ rfl (qT rfl rfl rfl (uM 10 rfl rfl (qS 11 rfl (Zxt · Zah3 (.tmp rfl) (.inl ⟨rfl,rfl⟩)) (rE ?_))))
 dsimp only [w0,w1,w2,w3]
 rcases ifc h with ⟨hc1,h⟩ | ⟨hc1,h⟩
 ·refine Zxb rfl (.tmp rfl) hc1 (qT rfl rfl rfl (qS 4 rfl (Zxa · (.int _ _)) (rE ?_)))
  cases h
  exact Zxl rfl at_.at_ rfl (res1 rfl rfl) ⟨rfl,rfl⟩
 ·refine Zxc rfl (.tmp rfl) (bfalse hc1) (Zxd rfl (qQ rfl (qT rfl rfl rfl (uM 12 rfl rfl (qS 13 rfl (Zxg (q := Sl.a x1) (n := Sl.len x1) (z := Sl.cap x1) · rfl tu57 (.tmp rfl)) (qS 14 rfl (Zzj · (.int _ _)) (rE ?_)))))))
  dsimp only [w0,w1,w2,w3]
  refine Zxo rfl (Zye rfl ?_)
  try dsimp only [w0,w1,w2,w3]
  exact L0_snd  h
end Y42
namespace Y86
theorem at_ : FnAt Tryz.prog 68 Tryz.f68 := ⟨Tryz.func68,by kernel_rfl⟩
def d0 := (Tryz.f68.body).getD .skip
def r1 := kT d0
def r3 := kT (kB d0)
def r5 := kT (kW d0)
def c0 : Code := .seq (.region 0 r1 false) (.seq (.region 1 r3 false) (.cond (.tmp 16) (.region 2 r5 false) .skip))
theorem body : Tryz.f68.body = some c0 := by kernel_rfl
def J0 (k : Nat) (S : HS) : Option ((Unit) × HS) :=
 some ((),S)
theorem J0_snd  {p : (Unit) × HS} (h : J0 k S = some p) : HR b w e 68 none [] ⟨[Ga,j,q,m,F,o,N,Gh,i,a,G,B,M,O,K,A,C,E,I],[]⟩ S (RR (.tup []) p.2) := by
 unfold J0 at h
 cases h
 exact Zzq at_.at_ rfl (res0 rfl) ⟨rfl,rfl⟩
def f (k : Nat) (x0 : (Option Nat)) (x1 : Int) (x2 : (List UInt8)) (S : HS) : Option ((Unit) × HS) :=
 ((S.look x0 (.int .i64 x1)).bind fun p1 =>
 ((dP (Option.getD p1 (.ptr none))).bind fun p2 =>
 (letv (HS.lit S [[(.str x2)]] 1) fun p3 =>
 ((Y42.f k p2 (p3.1) (p3.2)).bind fun p4 =>
 ((p4.2.look x0 (.int .i64 x1)).bind fun p5 =>
 ((dP (Option.getD p5 (.ptr none))).bind fun p6 =>
 ((Y29.f p6 p4.2).bind fun p7 =>
 (if p7.1 = 0 then
 ((p7.2.mdel x0 (.int .i64 x1)).bind fun p9 =>
 J0 k p9) else
 J0 k p7.2))))))))
theorem snd {x0 : (Option Nat)} {x1 : Int} {x2 : (List UInt8)}  {p : (Unit) × HS} (h : f k x0 x1 x2 S = some p) : HC b w e 68 [(.map x0),(.int .i64 x1),(.str x2)] S (RR (.tup []) p.2) := by
 unfold f at h
 refine HCall.of_run at_.at_ body ?_
 show HR b w e 68 none [.code c0] ⟨[(.map x0),(.int .i64 x1),(.str x2),z,z,z,z,z,z,z,z,z,z,z,z,z,z,z,z],[]⟩ S _
 obtain ⟨p1,hp1,p2,hp2,h⟩ := bd2 h
 refine qT rfl rfl rfl (uM 6 rfl rfl (uM 7 rfl rfl (qS 8 rfl (Zy9 · Zaed Zagc (fun β => .ptrNil) (Zabi tu3) (.tmp rfl) (.tmp rfl) hp1 (Zy3 hp2)) (uM 9 rfl rfl ?_))))
 try dsimp only [w0,w1,w2,w3]
 obtain ⟨p3,hp3,h⟩ := leto h
 obtain ⟨p4,hp4,h⟩ := bindo h
 refine qS 10 rfl (Zxp (xs := [(.tmp 9)]) el57 · rfl rfl (by decide) (ev1 rfl) rfl rfl hp3) (uQ 11 rfl (.func _) (ev2 rfl rfl) (HInv.static Y42.at_ Y42.body (Y42.snd  hp4)) (rE ?_))
 dsimp only [w0,w1,w2,w3]
 obtain ⟨p5,hp5,p6,hp6,p7,hp7,h⟩ := bd3 h
 refine qT rfl rfl rfl (uM 12 rfl rfl (uM 13 rfl rfl (qS 14 rfl (Zy9 · Zaed Zagc (fun β => .ptrNil) (Zabi tu3) (.tmp rfl) (.tmp rfl) hp5 (Zy3 hp6)) (uQ 15 rfl (.func _) (ev1 rfl) (HInv.static Y29.at_ Y29.body (Y29.snd  hp7)) ?_))))
 try dsimp only [w0,w1,w2,w3]
 refine uC 16 rfl rfl rfl (rE ?_)
 dsimp only [w0,w1,w2,w3]
 rcases ifc h with ⟨hc8,h⟩ | ⟨hc8,h⟩
 ·obtain ⟨p9,hp9,h⟩ := bindo h
  refine Zxb rfl (.tmp rfl) (decide_eq_true hc8) (qR rfl rfl (uM 17 rfl rfl (uM 18 rfl rfl (qN rfl (Zaez · rfl Zaed (Zabi tu3) (.tmp rfl) (.tmp rfl) hp9) (rE ?_)))))
  dsimp only [w0,w1,w2,w3]
  exact J0_snd  h
 ·refine Zxc rfl (.tmp rfl) (decide_eq_false hc8) (Zxd rfl ?_)
  try dsimp only [w0,w1,w2,w3]
  exact J0_snd  h
end Y86
namespace Y76
theorem at_ : FnAt Tryz.prog 101 Tryz.f101 := ⟨Tryz.func101,by kernel_rfl⟩
def d0 := (Tryz.f101.body).getD .skip
def r1 := kT d0
def r4 := kT (kY d0)
def r7 := kT (kY (kY d0))
def r11 := kT (kW d0)
def c0 : Code := .seq (.region 0 r1 false) (.seq (.seq (.region 1 r4 false) (.cond (.tmp 4) (.seq (.region 2 r7 false) .ret) .skip)) (.seq (.region 3 r11 false) .ret))
theorem body : Tryz.f101.body = some c0 := by kernel_rfl
def f (x0 : HP) (S : HS) : Option ((Int) × HS) :=
 (if (Option.isNone x0) = true then
 some (0,S) else
 (x0.bind fun p2 =>
 ((S.ldSl (HA.fld p2 0)).bind fun p3 =>
 some ((Sl.len p3 : Int),S))))
theorem snd {x0 : HP}  {p : (Int) × HS} (h : f x0 S = some p) : HC b w e 101 [(.ptr x0)] S (RR (.int .i64 p.1) p.2) := by
 unfold f at h
 refine HCall.of_run at_.at_ body ?_
 show HR b w e 101 none [.code c0] ⟨[(.ptr x0),z,z,z,z,z,z,z,z,z],[]⟩ S _
 refine qT rfl rfl rfl (qS 2 rfl (Zxa · (.int _ _)) (rE ?_))
 dsimp only [w0,w1,w2,w3]
 refine qQ rfl (qT rfl rfl rfl (uM 3 rfl rfl (qS 4 rfl (Zxt · tu96 (.tmp rfl) (.inl ⟨rfl,rfl⟩)) (rE ?_))))
 dsimp only [w0,w1,w2,w3]
 rcases ifc h with ⟨hc1,h⟩ | ⟨hc1,h⟩
 ·refine Zxb rfl (.tmp rfl) hc1 (qT rfl rfl rfl (qS 2 rfl (Zxa · (.int _ _)) (rE ?_)))
  cases h
  exact Zxl rfl at_.at_ rfl (res1 rfl rfl) ⟨rfl,rfl⟩
 ·obtain ⟨p2,hp2,p3,hp3,h⟩ := bd2 h
  refine Zxc rfl (.tmp rfl) (bfalse hc1) (Zxd rfl (qT rfl rfl rfl (uM 5 rfl rfl (uN 6 rfl rfl hp2 (uF 7 rfl Zaau (by decide) rfl rfl (uL 8 rfl sc42 rfl rfl (Zxj hp3) ?_))))))
  try dsimp only [w0,w1,w2,w3]
  refine qS 9 rfl (Zxg (q := Sl.a p3) (n := Sl.len p3) (z := Sl.cap p3) · rfl tu42 (.tmp rfl)) (uA 2 rfl rfl (rE ?_))
  cases h
  exact Zxl rfl at_.at_ rfl (res1 rfl rfl) ⟨rfl,rfl⟩
end Y76
namespace Y80
theorem at_ : FnAt Tryz.prog 69 Tryz.f69 := ⟨Tryz.func69,by kernel_rfl⟩
def d0 := (Tryz.f69.body).getD .skip
def r1 := kT d0
def r3 := kT (kB d0)
def r5 := kT (kW d0)
def c0 : Code := .seq (.region 0 r1 false) (.seq (.region 1 r3 false) (.cond (.tmp 16) (.region 2 r5 false) .skip))
theorem body : Tryz.f69.body = some c0 := by kernel_rfl
def J0 (k : Nat) (S : HS) : Option ((Unit) × HS) :=
 some ((),S)
theorem J0_snd  {p : (Unit) × HS} (h : J0 k S = some p) : HR b w e 69 none [] ⟨[Ga,j,q,m,F,o,N,Gh,i,a,G,B,M,O,K,A,C,E,I],[]⟩ S (RR (.tup []) p.2) := by
 unfold J0 at h
 cases h
 exact Zzq at_.at_ rfl (res0 rfl) ⟨rfl,rfl⟩
def f (k : Nat) (x0 : (Option Nat)) (x1 : (List UInt8)) (x2 : Int) (S : HS) : Option ((Unit) × HS) :=
 ((S.look x0 (.str x1)).bind fun p1 =>
 ((dP (Option.getD p1 (.ptr none))).bind fun p2 =>
 (letv (HS.lit S [[(.int .i64 x2)]] 1) fun p3 =>
 ((Y20.f k p2 (p3.1) (p3.2)).bind fun p4 =>
 ((p4.2.look x0 (.str x1)).bind fun p5 =>
 ((dP (Option.getD p5 (.ptr none))).bind fun p6 =>
 ((Y76.f p6 p4.2).bind fun p7 =>
 (if p7.1 = 0 then
 ((p7.2.mdel x0 (.str x1)).bind fun p9 =>
 J0 k p9) else
 J0 k p7.2))))))))
theorem snd {x0 : (Option Nat)} {x1 : (List UInt8)} {x2 : Int}  {p : (Unit) × HS} (h : f k x0 x1 x2 S = some p) : HC b w e 69 [(.map x0),(.str x1),(.int .i64 x2)] S (RR (.tup []) p.2) := by
 unfold f at h
 refine HCall.of_run at_.at_ body ?_
 show HR b w e 69 none [.code c0] ⟨[(.map x0),(.str x1),(.int .i64 x2),z,z,z,z,z,z,z,z,z,z,z,z,z,z,z,z],[]⟩ S _
 obtain ⟨p1,hp1,p2,hp2,h⟩ := bd2 h
 refine qT rfl rfl rfl (uM 6 rfl rfl (uM 7 rfl rfl (qS 8 rfl (Zy9 · Zah4 zi96 (fun β => .ptrNil) (Zadd tu9) (.tmp rfl) (.tmp rfl) hp1 (Zy3 hp2)) (uM 9 rfl rfl ?_))))
 try dsimp only [w0,w1,w2,w3]
 obtain ⟨p3,hp3,h⟩ := leto h
 obtain ⟨p4,hp4,h⟩ := bindo h
 refine qS 10 rfl (Zxp (xs := [(.tmp 9)]) el42 · rfl rfl (by decide) (ev1 rfl) rfl rfl hp3) (uQ 11 rfl (.func _) (ev2 rfl rfl) (HInv.static Y20.at_ Y20.body (Y20.snd  hp4)) (rE ?_))
 dsimp only [w0,w1,w2,w3]
 obtain ⟨p5,hp5,p6,hp6,p7,hp7,h⟩ := bd3 h
 refine qT rfl rfl rfl (uM 12 rfl rfl (uM 13 rfl rfl (qS 14 rfl (Zy9 · Zah4 zi96 (fun β => .ptrNil) (Zadd tu9) (.tmp rfl) (.tmp rfl) hp5 (Zy3 hp6)) (uQ 15 rfl (.func _) (ev1 rfl) (HInv.static Y76.at_ Y76.body (Y76.snd  hp7)) ?_))))
 try dsimp only [w0,w1,w2,w3]
 refine uC 16 rfl rfl rfl (rE ?_)
 dsimp only [w0,w1,w2,w3]
 rcases ifc h with ⟨hc8,h⟩ | ⟨hc8,h⟩
 ·obtain ⟨p9,hp9,h⟩ := bindo h
  refine Zxb rfl (.tmp rfl) (decide_eq_true hc8) (qR rfl rfl (uM 17 rfl rfl (uM 18 rfl rfl (qN rfl (Zaez · rfl Zah4 (Zadd tu9) (.tmp rfl) (.tmp rfl) hp9) (rE ?_)))))
  dsimp only [w0,w1,w2,w3]
  exact J0_snd  h
 ·refine Zxc rfl (.tmp rfl) (decide_eq_false hc8) (Zxd rfl ?_)
  try dsimp only [w0,w1,w2,w3]
  exact J0_snd  h
end Y80
namespace Y79
theorem at_ : FnAt Tryz.prog 38 Tryz.f38 := ⟨Tryz.func38,by kernel_rfl⟩
def d0 := (Tryz.f38.body).getD .skip
def r1 := kT d0
def r4 := kT (kY d0)
def r7 := kT (kY (kY d0))
def r11 := kT (kW d0)
def r13 := kT (kW (kB d0))
def r15 := kT (kW (kW d0))
def r17 := kT (kW (kW (kB d0)))
def c0 : Code := .seq (.region 0 r1 false) (.seq (.seq (.region 1 r4 false) (.cond (.tmp 11) (.seq (.region 2 r7 false) .ret) .skip)) (.seq (.region 3 r11 false) (.seq (.region 4 r13 false) (.seq (.region 5 r15 false) (.seq (.region 6 r17 false) .ret)))))
theorem body : Tryz.f38.body = some c0 := by kernel_rfl
def f (k : Nat) (x0 : HP) (x1 : Int) (x2 : (List UInt8)) (S : HS) : Option ((Bool) × HS) :=
 ((Y16.f k x0 x1 x2 S).bind fun p1 =>
 (if (!p1.1) = true then
 some (false,p1.2) else
 (x0.bind fun p3 =>
 ((p1.2.ldM (HA.fld p3 2)).bind fun p4 =>
 ((Y86.f k p4 x1 x2 p1.2).bind fun p5 =>
 (x0.bind fun p6 =>
 ((p5.2.ldM (HA.fld p6 3)).bind fun p7 =>
 ((Y80.f k p7 x2 x1 p5.2).bind fun p8 =>
 (x0.bind fun p9 =>
 ((p8.2.ldI .i64 (HA.fld p9 1)).bind fun p10 =>
 (x0.bind fun p11 =>
 ((p8.2.sets (HA.fld p11 1) [(.int .i64 (w64 (p10 - 1)))]).bind fun p12 =>
 some (true,p12)))))))))))))
theorem snd {x0 : HP} {x1 : Int} {x2 : (List UInt8)}  {p : (Bool) × HS} (h : f k x0 x1 x2 S = some p) : HC b w e 38 [(.ptr x0),(.int .i64 x1),(.str x2)] S (RR (.bool p.1) p.2) := by
 unfold f at h
 refine HCall.of_run at_.at_ body ?_
 show HR b w e 38 none [.code c0] ⟨[(.ptr x0),(.int .i64 x1),(.str x2),z,z,z,z,z,z,z,z,z,z,z,z,z,z,z,z,z,z,z,z,z,z,z,z,z,z,z,z,z,z],[]⟩ S _
 refine qT rfl rfl rfl (qS 6 rfl (Zxa · (.bool _)) (rE ?_))
 dsimp only [w0,w1,w2,w3]
 obtain ⟨p1,hp1,h⟩ := bindo h
 refine qQ rfl (qT rfl rfl rfl (uM 7 rfl rfl (uM 8 rfl rfl (uM 9 rfl rfl (uQ 10 rfl (.func _) (ev3 rfl rfl rfl) (HInv.static Y16.at_ Y16.body (Y16.snd  hp1)) ?_)))))
 try dsimp only [w0,w1,w2,w3]
 refine qS 11 rfl (Zys · (.tmp rfl)) (rE ?_)
 dsimp only [w0,w1,w2,w3]
 rcases ifc h with ⟨hc2,h⟩ | ⟨hc2,h⟩
 ·refine Zxb rfl (.tmp rfl) hc2 (qT rfl rfl rfl (qS 6 rfl (Zxa · (.bool _)) (rE ?_)))
  cases h
  exact Zxl rfl at_.at_ rfl (res1 rfl rfl) ⟨rfl,rfl⟩
 ·obtain ⟨p3,hp3,p4,hp4,h⟩ := bd2 h
  refine Zxc rfl (.tmp rfl) (bfalse hc2) (Zxd rfl (qT rfl rfl rfl (uM 12 rfl rfl (uN 13 rfl rfl hp3 (uF 14 rfl Zacz (by decide) rfl rfl (uL 15 rfl Zajn rfl rfl (Zaa8 hp4) ?_))))))
  try dsimp only [w0,w1,w2,w3]
  obtain ⟨p5,hp5,h⟩ := bindo h
  refine uM 16 rfl rfl (uM 17 rfl rfl (uQ 18 rfl (.func _) (ev3 rfl rfl rfl) (HInv.static Y86.at_ Y86.body (Y86.snd  hp5)) (rE ?_)))
  dsimp only [w0,w1,w2,w3]
  obtain ⟨p6,hp6,p7,hp7,h⟩ := bd2 h
  refine qT rfl rfl rfl (uM 19 rfl rfl (uN 20 rfl rfl hp6 (uF 21 rfl Zajo (by decide) rfl rfl (uL 22 rfl sc122 rfl rfl (Zaa8 hp7) ?_))))
  try dsimp only [w0,w1,w2,w3]
  obtain ⟨p8,hp8,h⟩ := bindo h
  refine uM 23 rfl rfl (uM 24 rfl rfl (uQ 25 rfl (.func _) (ev3 rfl rfl rfl) (HInv.static Y80.at_ Y80.body (Y80.snd  hp8)) (rE ?_)))
  dsimp only [w0,w1,w2,w3]
  obtain ⟨p9,hp9,p10,hp10,h⟩ := bd2 h
  refine qT rfl rfl rfl (uM 26 rfl rfl (uN 27 rfl rfl hp9 (uF 28 rfl Zaee (by decide) rfl rfl (uL 29 rfl sc3 rfl rfl (Zxq hp10) ?_))))
  try dsimp only [w0,w1,w2,w3]
  obtain ⟨p11,hp11,p12,hp12,h⟩ := bd2 h
  refine uC 30 rfl rfl rfl (uN 31 rfl rfl hp11 (uF 32 rfl Zaee (by decide) rfl rfl (qN rfl (Zxk (v := (.int .i64 (w64 (p10 - 1)))) · sz3 (.tmp rfl) rfl (.tmp rfl) rfl hp12) (rE ?_))))
  dsimp only [w0,w1,w2,w3]
  refine qT rfl rfl rfl (qS 6 rfl (Zxa · (.bool _)) (rE ?_))
  cases h
  exact Zxl rfl at_.at_ rfl (res1 rfl rfl) ⟨rfl,rfl⟩
end Y79
namespace Y124
theorem at_ : FnAt Tryz.prog 71 Tryz.f71 := ⟨Tryz.func71,by kernel_rfl⟩
def d0 := (Tryz.f71.body).getD .skip
def r1 := kT d0
def r3 := kT (kB d0)
def r6 := kT (kY (kB d0))
def r9 := kT (kY (kY (kB d0)))
def d12 := kW (kB d0)
def r13 := kT d12
def r15 := kT (kB d12)
def r17 := kT (kW d12)
def r19 := kT (kW (kB d12))
def c0 : Code := .seq (.region 0 r1 false) (.seq (.region 1 r3 false) (.seq (.seq (.region 2 r6 false) (.cond (.tmp 16) (.seq (.region 3 r9 false) .ret) .skip)) (.seq (.region 4 r13 false) (.seq (.region 5 r15 true) (.seq (.region 6 r17 false) (.seq (.region 7 r19 false) .ret))))))
theorem body : Tryz.f71.body = some c0 := by kernel_rfl
def f (x0 : Sl) (x1 : Int) (x2 : Int) (S : HS) : Option ((Sl) × HS) :=
 ((S.cut3 x0 x1 x2 (Sl.len x0 : Int) 3).bind fun p1 =>
 (if x1 = x2 then
 some (x0,S) else
 ((S.cut x0 0 x1 3).bind fun p3 =>
 ((S.cut x0 x2 (Sl.len x0 : Int) 3).bind fun p4 =>
 ((S.rows p4 3).bind fun p5 =>
 ((S.app p3 p5 3).bind fun p6 =>
 ((p6.2.cut (p6.1) (Sl.len (p6.1) : Int) (Sl.len x0 : Int) 3).bind fun p7 =>
 ((p6.2.over p7 (List.replicate (Sl.len p7) [(.int .i64 0),(.bool false),(.bool false)]) 3).bind fun p8 =>
 some ((p6.1),p8)))))))))
theorem snd {x0 : Sl} {x1 : Int} {x2 : Int}  {p : (Sl) × HS} (h : f x0 x1 x2 S = some p) : HC b w e 71 [(Sl.hv x0),(.int .i64 x1),(.int .i64 x2)] S (RR (Sl.hv p.1) p.2) := by
 unfold f at h
 refine HCall.of_run at_.at_ body ?_
 show HR b w e 71 none [.code c0] ⟨[(Sl.hv x0),(.int .i64 x1),(.int .i64 x2),z,z,z,z,z,z,z,z,z,z,z,z,z,z,z,z,z,z,z,z,z,z,z,z,z,z,z,z,z,z],[]⟩ S _
 refine qT rfl rfl rfl (qS 6 rfl (Zxa · (.const fun _ => .slNil none)) (rE ?_))
 dsimp only [w0,w1,w2,w3]
 refine qT rfl rfl rfl (uM 8 rfl rfl (uM 9 rfl rfl (uM 10 rfl rfl (uM 11 rfl rfl ?_))))
 try dsimp only [w0,w1,w2,w3]
 obtain ⟨p1,hp1,h⟩ := bindo h
 refine qS 12 rfl (Zxg (q := Sl.a x0) (n := Sl.len x0) (z := Sl.cap x0) · rfl tu87 (.tmp rfl)) (qS 13 rfl (Zabh (kl := .i64) (kh := .i64) (s := x0) (l := x1) (h := x2) · tu87 si62 (.tmp rfl) (.inr ⟨_,rfl,(.tmp rfl)⟩) (.inr ⟨_,rfl,(.tmp rfl)⟩) (.tmp rfl) hp1) (rE ?_))
 dsimp only [w0,w1,w2,w3]
 refine qQ rfl (qT rfl rfl rfl (uM 14 rfl rfl (uM 15 rfl rfl (uB 16 rfl rfl rfl rfl (rE ?_)))))
 dsimp only [w0,w1,w2,w3]
 rcases ifc h with ⟨hc2,h⟩ | ⟨hc2,h⟩
 ·refine Zxb rfl (.tmp rfl) (decide_eq_true hc2) (qT rfl rfl rfl (uM 17 rfl rfl (uA 6 rfl rfl (rE ?_))))
  cases h
  exact Zxl rfl at_.at_ rfl (res1 rfl rfl) ⟨rfl,rfl⟩
 ·refine Zxc rfl (.tmp rfl) (decide_eq_false hc2) (Zxd rfl (qT rfl rfl rfl (uM 18 rfl rfl (qS 19 rfl (Zxg (q := Sl.a x0) (n := Sl.len x0) (z := Sl.cap x0) · rfl tu87 (.tmp rfl)) (uA 7 rfl rfl (rE ?_))))))
  dsimp only [w0,w1,w2,w3]
  refine qQ rfl ?_
  refine Zx8 (cls := [0,0,1,0,0,1,2,0]) (rk := [0,1,2,3,4,5,6,7]) rfl (by kernel_rfl) ?_
  refine yf 20 [0] rfl (oM · rfl) ?_
  refine yf 21 [1] rfl (oM · rfl) ?_
  obtain ⟨p3,hp3,h⟩ := bindo h
  refine yr 22 [20,21] rfl (Zxn (kl := .i64) (kh := .i64) (s := x0) (l := 0) (h := x1) · tu87 si62 (.tmp rfl) (.inl ⟨rfl,rfl⟩) (.inr ⟨_,rfl,(.tmp rfl)⟩) hp3) ?_
  refine yf 23 [0] rfl (oM · rfl) ?_
  try dsimp only [w0,w1,w2,w3]
  refine yf 24 [2] rfl (oM · rfl) ?_
  obtain ⟨p4,hp4,h⟩ := bindo h
  refine yr 25 [23,24] rfl (Zxn (kl := .i64) (kh := .i64) (s := x0) (l := x2) (h := (Sl.len x0 : Int)) · tu87 si62 (.tmp rfl) (.inr ⟨_,rfl,(.tmp rfl)⟩) (.inl ⟨rfl,rfl⟩) hp4) ?_
  obtain ⟨p5,hp5,p6,hp6,h⟩ := bd2 h
  refine ye 26 [22,25] rfl (Zx1 (s := p3) (s1 := p4) el87 · rfl rfl ⟨_,tu87⟩ (.tmp rfl) (.tmp rfl) hp5 hp6) ?_
  refine yf 0 [26] rfl (oA · rfl) ?_
  refine Zx5 rfl ?_
  refine rE ?_
  try dsimp only [w0,w1,w2,w3]
  refine qT rfl rfl rfl (uM 27 rfl rfl (uM 28 rfl rfl (qS 29 rfl (Zxg (q := Sl.a (p6.1)) (n := Sl.len (p6.1)) (z := Sl.cap (p6.1)) · rfl tu87 (.tmp rfl)) (uM 30 rfl rfl ?_))))
  try dsimp only [w0,w1,w2,w3]
  obtain ⟨p7,hp7,p8,hp8,h⟩ := bd2 h
  refine qS 31 rfl (Zxn (kl := .i64) (kh := .i64) (s := (p6.1)) (l := (Sl.len (p6.1) : Int)) (h := (Sl.len x0 : Int)) · tu87 si62 (.tmp rfl) (.inr ⟨_,rfl,(.tmp rfl)⟩) (.inr ⟨_,rfl,(.tmp rfl)⟩) hp7) (qN rfl (Zab8 (s := p7) el87 · rfl (.tmp rfl) hp8) (rE ?_))
  dsimp only [w0,w1,w2,w3]
  refine qT rfl rfl rfl (uM 32 rfl rfl (uA 6 rfl rfl (rE ?_)))
  cases h
  exact Zxl rfl at_.at_ rfl (res1 rfl rfl) ⟨rfl,rfl⟩
end Y124
namespace Y87
theorem at_ : FnAt Tryz.prog 71 Tryz.f71 := Y124.at_
theorem body : Tryz.f71.body = some Y124.c0 := Y124.body
def f (x0 : Sl) (x1 : Int) (x2 : Int) (S : HS) : Option ((Sl) × HS) := HS.del S x0 x1 x2 3
theorem snd {b : Nat} {w : World} {e : Bt} {x0 : Sl} {x1 x2 : Int} {p : (Sl) × HS} (h : f x0 x1 x2 S = some p) : HC b w e 71 [(Sl.hv x0),(.int .i64 x1),(.int .i64 x2)] S (RR (Sl.hv p.1) p.2) :=
 Zad1 (zr := [(.int .i64 0),(.bool false),(.bool false)]) (fun _ _ _ h => Y124.snd h) h
end Y87
namespace Y61
theorem at_ : FnAt Tryz.prog 40 Tryz.f40 := ⟨Tryz.func40,by kernel_rfl⟩
def d0 := (Tryz.f40.body).getD .skip
def r1 := kT d0
def r3 := kT (kB d0)
def r6 := kT (kY (kB d0))
def r8 := kT (kZ (kW d0))
def r11 := kT (kW (kB d0))
def c10 : Code := .seq (.region 4 r11 false) .ret
def c0 : Code := .seq (.region 0 r1 false) (.seq (.region 1 r3 false) (.seq (.seq (.region 2 r6 false) (.cond (.tmp 13) (.region 3 r8 false) .skip)) c10))
theorem body : Tryz.f40.body = some c0 := by kernel_rfl
def J0 (D : Dp) (H : Hd) (k : Nat) (y6 : Bool) (S : HS) : Option ((Bool) × HS) :=
 some (y6,S)
theorem J0_snd (hD : DS b w D) (hH : HT b w e H) {y6 : Bool} {p : (Bool) × HS} (h : J0 D H k y6 S = some p) : HR b w e 40 none [.code c10] ⟨[Ga,j,q,m,F,o,(.bool y6),Gh,i,a,G,B,M,O,K,A,C,E,I,J,L,Q,U,V,Z,c],[]⟩ S (RR (.bool p.1) p.2) := by
 unfold J0 at h
 refine qT rfl rfl rfl (uM 25 rfl rfl (uA 4 rfl rfl (rE ?_)))
 cases h
 exact Zxl rfl at_.at_ rfl (res1 rfl rfl) ⟨rfl,rfl⟩
def f (D : Dp) (H : Hd) (k : Nat) (x0 : HP) (x1 : Int) (S : HS) : Option ((Bool) × HS) :=
 ((Y22.f D H k x0 x1 S).bind fun p1 =>
 (if p1.1.2 = true then
 (x0.bind fun p3 =>
 ((p1.2.ldSl (HA.fld p3 2)).bind fun p4 =>
 ((Y87.f p4 p1.1.1 (w64 (p1.1.1 + 1)) p1.2).bind fun p5 =>
 (x0.bind fun p6 =>
 ((p5.2.sets (HA.fld p6 2) [(Sl.hv p5.1)]).bind fun p7 =>
 J0 D H k p1.1.2 p7))))) else
 J0 D H k p1.1.2 p1.2))
theorem snd {x0 : HP} {x1 : Int} (hD : DS b w D) (hH : HT b w e H) {p : (Bool) × HS} (h : f D H k x0 x1 S = some p) : HC b w e 40 [(.ptr x0),(.int .i64 x1)] S (RR (.bool p.1) p.2) := by
 unfold f at h
 refine HCall.of_run at_.at_ body ?_
 show HR b w e 40 none [.code c0] ⟨[(.ptr x0),(.int .i64 x1),z,z,z,z,z,z,z,z,z,z,z,z,z,z,z,z,z,z,z,z,z,z,z,z],[]⟩ S _
 refine qT rfl rfl rfl (qS 4 rfl (Zxa · (.bool _)) (rE ?_))
 dsimp only [w0,w1,w2,w3]
 obtain ⟨p1,hp1,h⟩ := bindo h
 refine qT rfl rfl rfl (uM 8 rfl rfl (uM 9 rfl rfl (uQ 10 rfl (.func _) (ev2 rfl rfl) (HInv.static Y22.at_ Y22.body (Y22.snd hD hH hp1)) (uM 7 rfl rfl ?_))))
 try dsimp only [w0,w1,w2,w3]
 refine qS 11 rfl (Zxr · (.tmp rfl) rfl) (qS 12 rfl (Zxr · (.tmp rfl) rfl) (uA 5 rfl rfl (uA 6 rfl rfl (rE ?_))))
 dsimp only [w0,w1,w2,w3]
 refine qQ rfl (qT rfl rfl rfl (uM 13 rfl rfl (rE ?_)))
 dsimp only [w0,w1,w2,w3]
 rcases ifc h with ⟨hc2,h⟩ | ⟨hc2,h⟩
 ·obtain ⟨p3,hp3,h⟩ := bindo h
  refine Zxb rfl (.tmp rfl) hc2 (qR rfl rfl (uM 14 rfl rfl (uM 15 rfl rfl (uN 16 rfl rfl hp3 (uF 17 rfl Zaav (by decide) rfl rfl ?_)))))
  try dsimp only [w0,w1,w2,w3]
  obtain ⟨p4,hp4,h⟩ := bindo h
  refine uL 18 rfl sc87 rfl rfl (Zxj hp4) (uM 19 rfl rfl (uM 20 rfl rfl (uC 21 rfl rfl rfl ?_)))
  try dsimp only [w0,w1,w2,w3]
  obtain ⟨p5,hp5,h⟩ := bindo h
  refine uQ 22 rfl (.func _) (ev3 rfl rfl rfl) (HInv.static Y87.at_ Y87.body (Y87.snd  hp5)) ?_
  obtain ⟨p6,hp6,p7,hp7,h⟩ := bd2 h
  refine uN 23 rfl rfl hp6 (uF 24 rfl Zaav (by decide) rfl rfl (qN rfl (Zxk (v := (Sl.hv p5.1)) · sz87 (.tmp rfl) rfl (.tmp rfl) rfl hp7) (rE ?_)))
  dsimp only [w0,w1,w2,w3]
  exact J0_snd hD hH h
 ·refine Zxc rfl (.tmp rfl) (bfalse hc2) (Zxd rfl ?_)
  try dsimp only [w0,w1,w2,w3]
  exact J0_snd hD hH h
end Y61
namespace Y31
theorem at_ : FnAt Tryz.prog 23 Tryz.f23 := ⟨Tryz.func23,by kernel_rfl⟩
def d0 := (Tryz.f23.body).getD .skip
def r1 := kT d0
def r4 := kT (kY d0)
def r7 := kT (kY (kY d0))
def r11 := kT (kW d0)
def c0 : Code := .seq (.region 0 r1 false) (.seq (.seq (.region 1 r4 false) (.cond (.tmp 4) (.seq (.region 2 r7 false) .ret) .skip)) (.seq (.region 3 r11 false) .ret))
theorem body : Tryz.f23.body = some c0 := by kernel_rfl
def f (x0 : HP) (S : HS) : Option ((Int) × HS) :=
 (if (Option.isNone x0) = true then
 some (0,S) else
 (x0.bind fun p2 =>
 ((S.ldSl (HA.fld p2 2)).bind fun p3 =>
 some ((Sl.len p3 : Int),S))))
theorem snd {x0 : HP}  {p : (Int) × HS} (h : f x0 S = some p) : HC b w e 23 [(.ptr x0)] S (RR (.int .i64 p.1) p.2) := by
 unfold f at h
 refine HCall.of_run at_.at_ body ?_
 show HR b w e 23 none [.code c0] ⟨[(.ptr x0),z,z,z,z,z,z,z,z,z],[]⟩ S _
 refine qT rfl rfl rfl (qS 2 rfl (Zxa · (.int _ _)) (rE ?_))
 dsimp only [w0,w1,w2,w3]
 refine qQ rfl (qT rfl rfl rfl (uM 3 rfl rfl (qS 4 rfl (Zxt · tu36 (.tmp rfl) (.inl ⟨rfl,rfl⟩)) (rE ?_))))
 dsimp only [w0,w1,w2,w3]
 rcases ifc h with ⟨hc1,h⟩ | ⟨hc1,h⟩
 ·refine Zxb rfl (.tmp rfl) hc1 (qT rfl rfl rfl (qS 2 rfl (Zxa · (.int _ _)) (rE ?_)))
  cases h
  exact Zxl rfl at_.at_ rfl (res1 rfl rfl) ⟨rfl,rfl⟩
 ·obtain ⟨p2,hp2,p3,hp3,h⟩ := bd2 h
  refine Zxc rfl (.tmp rfl) (bfalse hc1) (Zxd rfl (qT rfl rfl rfl (uM 5 rfl rfl (uN 6 rfl rfl hp2 (uF 7 rfl Zaav (by decide) rfl rfl (uL 8 rfl sc87 rfl rfl (Zxj hp3) ?_))))))
  try dsimp only [w0,w1,w2,w3]
  refine qS 9 rfl (Zxg (q := Sl.a p3) (n := Sl.len p3) (z := Sl.cap p3) · rfl tu87 (.tmp rfl)) (uA 2 rfl rfl (rE ?_))
  cases h
  exact Zxl rfl at_.at_ rfl (res1 rfl rfl) ⟨rfl,rfl⟩
end Y31
namespace Y107
theorem at_ : FnAt Tryz.prog 73 Tryz.f73 := ⟨Tryz.func73,by kernel_rfl⟩
def d0 := (Tryz.f73.body).getD .skip
def r1 := kT d0
def r3 := kT (kB d0)
def r6 := kT (kY (kB d0))
def r9 := kT (kY (kY (kB d0)))
def d12 := kW (kB d0)
def r13 := kT d12
def r15 := kT (kB d12)
def r17 := kT (kW d12)
def r19 := kT (kW (kB d12))
def c0 : Code := .seq (.region 0 r1 false) (.seq (.region 1 r3 false) (.seq (.seq (.region 2 r6 false) (.cond (.tmp 16) (.seq (.region 3 r9 false) .ret) .skip)) (.seq (.region 4 r13 false) (.seq (.region 5 r15 true) (.seq (.region 6 r17 false) (.seq (.region 7 r19 false) .ret))))))
theorem body : Tryz.f73.body = some c0 := by kernel_rfl
def f (x0 : Sl) (x1 : Int) (x2 : Int) (S : HS) : Option ((Sl) × HS) :=
 ((S.cut3 x0 x1 x2 (Sl.len x0 : Int) 2).bind fun p1 =>
 (if x1 = x2 then
 some (x0,S) else
 ((S.cut x0 0 x1 2).bind fun p3 =>
 ((S.cut x0 x2 (Sl.len x0 : Int) 2).bind fun p4 =>
 ((S.rows p4 2).bind fun p5 =>
 ((S.app p3 p5 2).bind fun p6 =>
 ((p6.2.cut (p6.1) (Sl.len (p6.1) : Int) (Sl.len x0 : Int) 2).bind fun p7 =>
 ((p6.2.over p7 (List.replicate (Sl.len p7) [(.str []),(.ptr none)]) 2).bind fun p8 =>
 some ((p6.1),p8)))))))))
theorem snd {x0 : Sl} {x1 : Int} {x2 : Int}  {p : (Sl) × HS} (h : f x0 x1 x2 S = some p) : HC b w e 73 [(Sl.hv x0),(.int .i64 x1),(.int .i64 x2)] S (RR (Sl.hv p.1) p.2) := by
 unfold f at h
 refine HCall.of_run at_.at_ body ?_
 show HR b w e 73 none [.code c0] ⟨[(Sl.hv x0),(.int .i64 x1),(.int .i64 x2),z,z,z,z,z,z,z,z,z,z,z,z,z,z,z,z,z,z,z,z,z,z,z,z,z,z,z,z,z,z],[]⟩ S _
 refine qT rfl rfl rfl (qS 6 rfl (Zxa · (.const fun _ => .slNil none)) (rE ?_))
 dsimp only [w0,w1,w2,w3]
 refine qT rfl rfl rfl (uM 8 rfl rfl (uM 9 rfl rfl (uM 10 rfl rfl (uM 11 rfl rfl ?_))))
 try dsimp only [w0,w1,w2,w3]
 obtain ⟨p1,hp1,h⟩ := bindo h
 refine qS 12 rfl (Zxg (q := Sl.a x0) (n := Sl.len x0) (z := Sl.cap x0) · rfl Zyr (.tmp rfl)) (qS 13 rfl (Zabh (kl := .i64) (kh := .i64) (s := x0) (l := x1) (h := x2) · Zyr Zaaj (.tmp rfl) (.inr ⟨_,rfl,(.tmp rfl)⟩) (.inr ⟨_,rfl,(.tmp rfl)⟩) (.tmp rfl) hp1) (rE ?_))
 dsimp only [w0,w1,w2,w3]
 refine qQ rfl (qT rfl rfl rfl (uM 14 rfl rfl (uM 15 rfl rfl (uB 16 rfl rfl rfl rfl (rE ?_)))))
 dsimp only [w0,w1,w2,w3]
 rcases ifc h with ⟨hc2,h⟩ | ⟨hc2,h⟩
 ·refine Zxb rfl (.tmp rfl) (decide_eq_true hc2) (qT rfl rfl rfl (uM 17 rfl rfl (uA 6 rfl rfl (rE ?_))))
  cases h
  exact Zxl rfl at_.at_ rfl (res1 rfl rfl) ⟨rfl,rfl⟩
 ·refine Zxc rfl (.tmp rfl) (decide_eq_false hc2) (Zxd rfl (qT rfl rfl rfl (uM 18 rfl rfl (qS 19 rfl (Zxg (q := Sl.a x0) (n := Sl.len x0) (z := Sl.cap x0) · rfl Zyr (.tmp rfl)) (uA 7 rfl rfl (rE ?_))))))
  dsimp only [w0,w1,w2,w3]
  refine qQ rfl ?_
  refine Zx8 (cls := [0,0,1,0,0,1,2,0]) (rk := [0,1,2,3,4,5,6,7]) rfl (by kernel_rfl) ?_
  refine yf 20 [0] rfl (oM · rfl) ?_
  refine yf 21 [1] rfl (oM · rfl) ?_
  obtain ⟨p3,hp3,h⟩ := bindo h
  refine yr 22 [20,21] rfl (Zxn (kl := .i64) (kh := .i64) (s := x0) (l := 0) (h := x1) · Zyr Zaaj (.tmp rfl) (.inl ⟨rfl,rfl⟩) (.inr ⟨_,rfl,(.tmp rfl)⟩) hp3) ?_
  refine yf 23 [0] rfl (oM · rfl) ?_
  try dsimp only [w0,w1,w2,w3]
  refine yf 24 [2] rfl (oM · rfl) ?_
  obtain ⟨p4,hp4,h⟩ := bindo h
  refine yr 25 [23,24] rfl (Zxn (kl := .i64) (kh := .i64) (s := x0) (l := x2) (h := (Sl.len x0 : Int)) · Zyr Zaaj (.tmp rfl) (.inr ⟨_,rfl,(.tmp rfl)⟩) (.inl ⟨rfl,rfl⟩) hp4) ?_
  obtain ⟨p5,hp5,p6,hp6,h⟩ := bd2 h
  refine ye 26 [22,25] rfl (Zx1 (s := p3) (s1 := p4) Zab4 · rfl rfl ⟨_,Zyr⟩ (.tmp rfl) (.tmp rfl) hp5 hp6) ?_
  refine yf 0 [26] rfl (oA · rfl) ?_
  refine Zx5 rfl ?_
  refine rE ?_
  try dsimp only [w0,w1,w2,w3]
  refine qT rfl rfl rfl (uM 27 rfl rfl (uM 28 rfl rfl (qS 29 rfl (Zxg (q := Sl.a (p6.1)) (n := Sl.len (p6.1)) (z := Sl.cap (p6.1)) · rfl Zyr (.tmp rfl)) (uM 30 rfl rfl ?_))))
  try dsimp only [w0,w1,w2,w3]
  obtain ⟨p7,hp7,p8,hp8,h⟩ := bd2 h
  refine qS 31 rfl (Zxn (kl := .i64) (kh := .i64) (s := (p6.1)) (l := (Sl.len (p6.1) : Int)) (h := (Sl.len x0 : Int)) · Zyr Zaaj (.tmp rfl) (.inr ⟨_,rfl,(.tmp rfl)⟩) (.inr ⟨_,rfl,(.tmp rfl)⟩) hp7) (qN rfl (Zab8 (s := p7) Zab4 · rfl (.tmp rfl) hp8) (rE ?_))
  dsimp only [w0,w1,w2,w3]
  refine qT rfl rfl rfl (uM 32 rfl rfl (uA 6 rfl rfl (rE ?_)))
  cases h
  exact Zxl rfl at_.at_ rfl (res1 rfl rfl) ⟨rfl,rfl⟩
end Y107
namespace Y104
theorem at_ : FnAt Tryz.prog 73 Tryz.f73 := Y107.at_
theorem body : Tryz.f73.body = some Y107.c0 := Y107.body
def f (x0 : Sl) (x1 : Int) (x2 : Int) (S : HS) : Option ((Sl) × HS) := HS.del S x0 x1 x2 2
theorem snd {b : Nat} {w : World} {e : Bt} {x0 : Sl} {x1 x2 : Int} {p : (Sl) × HS} (h : f x0 x1 x2 S = some p) : HC b w e 73 [(Sl.hv x0),(.int .i64 x1),(.int .i64 x2)] S (RR (Sl.hv p.1) p.2) :=
 Zad1 (zr := [(.str []),(.ptr none)]) (fun _ _ _ h => Y107.snd h) h
end Y104
namespace Y55
theorem at_ : FnAt Tryz.prog 41 Tryz.f41 := ⟨Tryz.func41,by kernel_rfl⟩
def d0 := (Tryz.f41.body).getD .skip
def r1 := kT d0
def r3 := kT (kB d0)
def r6 := kT (kY (kB d0))
def r8 := kT (kZ (kW d0))
def r11 := kT (kW (kB d0))
def c10 : Code := .seq (.region 4 r11 false) .ret
def c0 : Code := .seq (.region 0 r1 false) (.seq (.region 1 r3 false) (.seq (.seq (.region 2 r6 false) (.cond (.tmp 13) (.region 3 r8 false) .skip)) c10))
theorem body : Tryz.f41.body = some c0 := by kernel_rfl
def J0 (D : Dp) (H : Hd) (k : Nat) (y6 : Bool) (S : HS) : Option ((Bool) × HS) :=
 some (y6,S)
theorem J0_snd (hD : DS b w D) (hH : HT b w e H) {y6 : Bool} {p : (Bool) × HS} (h : J0 D H k y6 S = some p) : HR b w e 41 none [.code c10] ⟨[Ga,j,q,m,F,o,(.bool y6),Gh,i,a,G,B,M,O,K,A,C,E,I,J,L,Q,U,V,Z,c],[]⟩ S (RR (.bool p.1) p.2) := by
 unfold J0 at h
 refine qT rfl rfl rfl (uM 25 rfl rfl (uA 4 rfl rfl (rE ?_)))
 cases h
 exact Zxl rfl at_.at_ rfl (res1 rfl rfl) ⟨rfl,rfl⟩
def f (D : Dp) (H : Hd) (k : Nat) (x0 : HP) (x1 : (List UInt8)) (S : HS) : Option ((Bool) × HS) :=
 ((Y19.f D H k x0 x1 S).bind fun p1 =>
 (if p1.1.2 = true then
 (x0.bind fun p3 =>
 ((p1.2.ldSl (HA.fld p3 1)).bind fun p4 =>
 ((Y104.f p4 p1.1.1 (w64 (p1.1.1 + 1)) p1.2).bind fun p5 =>
 (x0.bind fun p6 =>
 ((p5.2.sets (HA.fld p6 1) [(Sl.hv p5.1)]).bind fun p7 =>
 J0 D H k p1.1.2 p7))))) else
 J0 D H k p1.1.2 p1.2))
theorem snd {x0 : HP} {x1 : (List UInt8)} (hD : DS b w D) (hH : HT b w e H) {p : (Bool) × HS} (h : f D H k x0 x1 S = some p) : HC b w e 41 [(.ptr x0),(.str x1)] S (RR (.bool p.1) p.2) := by
 unfold f at h
 refine HCall.of_run at_.at_ body ?_
 show HR b w e 41 none [.code c0] ⟨[(.ptr x0),(.str x1),z,z,z,z,z,z,z,z,z,z,z,z,z,z,z,z,z,z,z,z,z,z,z,z],[]⟩ S _
 refine qT rfl rfl rfl (qS 4 rfl (Zxa · (.bool _)) (rE ?_))
 dsimp only [w0,w1,w2,w3]
 obtain ⟨p1,hp1,h⟩ := bindo h
 refine qT rfl rfl rfl (uM 8 rfl rfl (uM 9 rfl rfl (uQ 10 rfl (.func _) (ev2 rfl rfl) (HInv.static Y19.at_ Y19.body (Y19.snd hD hH hp1)) (uM 7 rfl rfl ?_))))
 try dsimp only [w0,w1,w2,w3]
 refine qS 11 rfl (Zxr · (.tmp rfl) rfl) (qS 12 rfl (Zxr · (.tmp rfl) rfl) (uA 5 rfl rfl (uA 6 rfl rfl (rE ?_))))
 dsimp only [w0,w1,w2,w3]
 refine qQ rfl (qT rfl rfl rfl (uM 13 rfl rfl (rE ?_)))
 dsimp only [w0,w1,w2,w3]
 rcases ifc h with ⟨hc2,h⟩ | ⟨hc2,h⟩
 ·obtain ⟨p3,hp3,h⟩ := bindo h
  refine Zxb rfl (.tmp rfl) hc2 (qR rfl rfl (uM 14 rfl rfl (uM 15 rfl rfl (uN 16 rfl rfl hp3 (uF 17 rfl Zz3 (by decide) rfl rfl ?_)))))
  try dsimp only [w0,w1,w2,w3]
  obtain ⟨p4,hp4,h⟩ := bindo h
  refine uL 18 rfl Zaec rfl rfl (Zxj hp4) (uM 19 rfl rfl (uM 20 rfl rfl (uC 21 rfl rfl rfl ?_)))
  try dsimp only [w0,w1,w2,w3]
  obtain ⟨p5,hp5,h⟩ := bindo h
  refine uQ 22 rfl (.func _) (ev3 rfl rfl rfl) (HInv.static Y104.at_ Y104.body (Y104.snd  hp5)) ?_
  obtain ⟨p6,hp6,p7,hp7,h⟩ := bd2 h
  refine uN 23 rfl rfl hp6 (uF 24 rfl Zz3 (by decide) rfl rfl (qN rfl (Zxk (v := (Sl.hv p5.1)) · sz118 (.tmp rfl) rfl (.tmp rfl) rfl hp7) (rE ?_)))
  dsimp only [w0,w1,w2,w3]
  exact J0_snd hD hH h
 ·refine Zxc rfl (.tmp rfl) (bfalse hc2) (Zxd rfl ?_)
  try dsimp only [w0,w1,w2,w3]
  exact J0_snd hD hH h
end Y55
namespace Y14
theorem at_ : FnAt Tryz.prog 10 Tryz.f10 := ⟨Tryz.func10,by kernel_rfl⟩
def d0 := (Tryz.f10.body).getD .skip
def r1 := kT d0
def r3 := kT (kB d0)
def r6 := kT (kY (kB d0))
def r9 := kT (kY (kY (kB d0)))
def d12 := kW (kB d0)
def r13 := kT d12
def r16 := kT (kY d12)
def r18 := kT (kZ (kB d12))
def r21 := kT (kW d12)
def c20 : Code := .seq (.region 7 r21 false) .ret
def c12 : Code := .seq (.region 4 r13 false) (.seq (.seq (.region 5 r16 false) (.cond (.tmp 33) (.region 6 r18 false) .skip)) c20)
def c7 : Code := .cond (.tmp 27) (.seq (.region 3 r9 false) .ret) .skip
def c0 : Code := .seq (.region 0 r1 false) (.seq (.region 1 r3 false) (.seq (.seq (.region 2 r6 true) c7) c12))
theorem body : Tryz.f10.body = some c0 := by kernel_rfl
def J1 (D : Dp) (H : Hd) (k : Nat) (S : HS) : Option ((Bool) × HS) :=
 some (true,S)
theorem J1_snd (hD : DS b w D) (hH : HT b w e H) {p : (Bool) × HS} (h : J1 D H k S = some p) : HR b w e 10 none [.code c20] ⟨[Ga,j,q,m,F,o,N,Gh,i,a,G,B,M,O,K,A,C,E,I,J,L,Q,U,V,Z,c,d,g,r,Kd,Ke,Kf,Kg,Kh,Ki,Kj,Kk,Kl,Km,Kn],[]⟩ S (RR (.bool p.1) p.2) := by
 unfold J1 at h
 refine qT rfl rfl rfl (qS 6 rfl (Zxa · (.bool _)) (rE ?_))
 cases h
 exact Zxl rfl at_.at_ rfl (res1 rfl rfl) ⟨rfl,rfl⟩
def J0 (D : Dp) (H : Hd) (k : Nat) (y0 : HP) (y1 : Int) (y2 : (List UInt8)) (y7 : HP) (y27 : Bool) (S : HS) : Option ((Bool) × HS) :=
 (if y27 = true then
 some (false,S) else
 ((Y61.f D H k y7 y1 S).bind fun p4 =>
 ((Y31.f y7 p4.2).bind fun p5 =>
 (if p5.1 = 0 then
 (y0.bind fun p7 =>
 ((p5.2.ldP (HA.fld p7 15)).bind fun p8 =>
 ((Y55.f D H k p8 y2 p5.2).bind fun p9 =>
 J1 D H k p9.2))) else
 J1 D H k p5.2))))
theorem J0_snd (hD : DS b w D) (hH : HT b w e H) {y0 : HP} {y1 : Int} {y2 : (List UInt8)} {y7 : HP} {y27 : Bool} {p : (Bool) × HS} (h : J0 D H k y0 y1 y2 y7 y27 S = some p) : HR b w e 10 none [.code c7,.code c12] ⟨[(.ptr y0),(.int .i64 y1),(.str y2),m,F,o,N,(.ptr y7),i,a,G,B,M,O,K,A,C,E,I,J,L,Q,U,V,Z,c,d,(.bool y27),r,Kd,Ke,Kf,Kg,Kh,Ki,Kj,Kk,Kl,Km,Kn],[]⟩ S (RR (.bool p.1) p.2) := by
 unfold J0 at h
 rcases ifc h with ⟨hc3,h⟩ | ⟨hc3,h⟩
 ·refine Zxb rfl (.tmp rfl) hc3 (qT rfl rfl rfl (qS 6 rfl (Zxa · (.bool _)) (rE ?_)))
  cases h
  exact Zxl rfl at_.at_ rfl (res1 rfl rfl) ⟨rfl,rfl⟩
 ·obtain ⟨p4,hp4,h⟩ := bindo h
  refine Zxc rfl (.tmp rfl) (bfalse hc3) (Zxd rfl (qT rfl rfl rfl (uM 28 rfl rfl (uM 29 rfl rfl (uQ 30 rfl (.func _) (ev2 rfl rfl) (HInv.static Y61.at_ Y61.body (Y61.snd hD hH hp4)) (rE ?_))))))
  dsimp only [w0,w1,w2,w3]
  obtain ⟨p5,hp5,h⟩ := bindo h
  refine qQ rfl (qT rfl rfl rfl (uM 31 rfl rfl (uQ 32 rfl (.func _) (ev1 rfl) (HInv.static Y31.at_ Y31.body (Y31.snd  hp5)) (uC 33 rfl rfl rfl (rE ?_)))))
  dsimp only [w0,w1,w2,w3]
  rcases ifc h with ⟨hc6,h⟩ | ⟨hc6,h⟩
  ·obtain ⟨p7,hp7,p8,hp8,h⟩ := bd2 h
   refine Zxb rfl (.tmp rfl) (decide_eq_true hc6) (qR rfl rfl (uM 34 rfl rfl (uN 35 rfl rfl hp7 (uF 36 rfl Zab1 (by decide) rfl rfl (uL 37 rfl sc75 rfl rfl (Zx0 hp8) ?_)))))
   try dsimp only [w0,w1,w2,w3]
   obtain ⟨p9,hp9,h⟩ := bindo h
   refine uM 38 rfl rfl (uQ 39 rfl (.func _) (ev2 rfl rfl) (HInv.static Y55.at_ Y55.body (Y55.snd hD hH hp9)) (rE ?_))
   dsimp only [w0,w1,w2,w3]
   exact J1_snd hD hH h
  ·refine Zxc rfl (.tmp rfl) (decide_eq_false hc6) (Zxd rfl ?_)
   try dsimp only [w0,w1,w2,w3]
   exact J1_snd hD hH h
def f (D : Dp) (H : Hd) (k : Nat) (x0 : HP) (x1 : Int) (x2 : (List UInt8)) (S : HS) : Option ((Bool) × HS) :=
 ((Y33.f D H k x0 x2 S).bind fun p1 =>
 (if (!p1.1.2) = true then
 J0 D H k x0 x1 x2 p1.1.1 true p1.2 else
 (x0.bind fun p10 =>
 ((p1.2.ldP (HA.fld p10 16)).bind fun p11 =>
 ((Y28.f k x2 p1.2).bind fun p12 =>
 ((p12.2.ldP (HA.fld p10 16)).bind fun p13 =>
 (if p13 = p11 then
 ((Y79.f k p11 x1 p12.1 p12.2).bind fun p15 =>
 J0 D H k x0 x1 x2 p1.1.1 (!p15.1) p15.2) else none)))))))
theorem snd {x0 : HP} {x1 : Int} {x2 : (List UInt8)} (hD : DS b w D) (hH : HT b w e H) {p : (Bool) × HS} (h : f D H k x0 x1 x2 S = some p) : HC b w e 10 [(.ptr x0),(.int .i64 x1),(.str x2)] S (RR (.bool p.1) p.2) := by
 unfold f at h
 refine HCall.of_run at_.at_ body ?_
 show HR b w e 10 none [.code c0] ⟨[(.ptr x0),(.int .i64 x1),(.str x2),z,z,z,z,z,z,z,z,z,z,z,z,z,z,z,z,z,z,z,z,z,z,z,z,z,z,z,z,z,z,z,z,z,z,z,z,z],[]⟩ S _
 refine qT rfl rfl rfl (qS 6 rfl (Zxa · (.bool _)) (rE ?_))
 dsimp only [w0,w1,w2,w3]
 obtain ⟨p1,hp1,h⟩ := bindo h
 refine qT rfl rfl rfl (uM 10 rfl rfl (uM 11 rfl rfl (uQ 12 rfl (.func _) (ev2 rfl rfl) (HInv.static Y33.at_ Y33.body (Y33.snd hD hH hp1)) (uM 9 rfl rfl ?_))))
 try dsimp only [w0,w1,w2,w3]
 refine qS 13 rfl (Zxr · (.tmp rfl) rfl) (qS 14 rfl (Zxr · (.tmp rfl) rfl) (uA 7 rfl rfl (uA 8 rfl rfl (rE ?_))))
 dsimp only [w0,w1,w2,w3]
 refine qQ rfl (qQ rfl ?_)
 refine Zx8 (cls := [0,0,0,0,0,0,3,0,0,2,2,0,0]) (rk := [0,1,2,3,4,5,6,7,8,9,10,11,12]) rfl (by kernel_rfl) ?_
 refine xf 15 [8] rfl (oM · rfl) ?_
 refine xf 16 [15] rfl (Zys · (.tmp rfl)) ?_
 refine xf 17 [16] rfl (oM · rfl) ?_
 rcases ifc h with ⟨hc2,h⟩ | ⟨hc2,h⟩
 ·refine xfs 18 17 [0,17] rfl hc2 ?_
  try dsimp only [w0,w1,w2,w3]
  refine xfs 19 17 [18,17] rfl hc2 ?_
  refine xfs 20 17 [19,17] rfl hc2 ?_
  refine Zx3 (Zyt (dst := some 21) (t := 17) (ts := [20,17]) rfl (by kernel_rfl) rfl rfl hc2) rfl trivial ?_
  refine xfs 22 17 [1,17] rfl hc2 ?_
  try dsimp only [w0,w1,w2,w3]
  refine xfs 23 17 [2,17] rfl hc2 ?_
  refine zes 24 17 [23,17] rfl hc2 ⟨.inr (Zyz (dst := some 21) (t := 17) (ts := [20,17]) rfl (by kernel_rfl) rfl rfl hc2),trivial⟩ ?_
  refine zes 25 17 [21,22,24,17] rfl hc2 ⟨.inl (by kernel_rfl),trivial⟩ ?_
  refine xfs 26 17 [25,17] rfl hc2 ?_
  try dsimp only [w0,w1,w2,w3]
  refine xf 27 [17,26] rfl (Zxh · (.tmp rfl) hc2 (.bool _)) ?_
  refine Zx5 rfl ?_
  refine rE ?_
  try dsimp only [w0,w1,w2,w3]
  exact J0_snd hD hH h
 ·refine xfg 18 17 [0,17] rfl (bfalse hc2) (oM · rfl) ?_
  try dsimp only [w0,w1,w2,w3]
  obtain ⟨p10,hp10,h⟩ := bindo h
  refine xfg 19 17 [18,17] rfl (bfalse hc2) (oN · rfl hp10) ?_
  refine xfg 20 17 [19,17] rfl (bfalse hc2) (oF · Zafi (by decide) rfl rfl) ?_
  obtain ⟨p11,hp11,h⟩ := bindo h
  refine Zx3 (Zzu (dst := some 21) (t := 17) (ts := [20,17]) rfl (by intro _ _ h; cases h) (by kernel_rfl) rfl rfl (bfalse hc2) (fun _ ho => Zxs ho sc79 (.tmp rfl) rfl (Zx0 hp11))) rfl trivial ?_
  refine xfg 22 17 [1,17] rfl (bfalse hc2) (oM · rfl) ?_
  try dsimp only [w0,w1,w2,w3]
  refine xfg 23 17 [2,17] rfl (bfalse hc2) (oM · rfl) ?_
  obtain ⟨p12,hp12,p13,hp13,h⟩ := bd2 h
  obtain ⟨hg14,h⟩ := gd h
  refine Zzc (Zyu (dst := some 24) (t := 17) (ts := [23,17]) rfl (by kernel_rfl) rfl rfl (bfalse hc2) (.func _) (ev1 rfl) (HInv.static Y28.at_ Y28.body (Y28.snd  hp12))) rfl ⟨.inr (Zzz (dst := some 21) (t := 17) (ts := [20,17]) rfl (by intro _ _ h; cases h) (by kernel_rfl) rfl rfl (bfalse hc2) (fun _ ho => Zxs ho sc79 (.tmp rfl) rfl (Zx0 (hp13.trans (congrArg some hg14))))),trivial⟩ ?_
  obtain ⟨p15,hp15,h⟩ := bindo h
  refine Zzc (Zyu (dst := some 25) (t := 17) (ts := [21,22,24,17]) rfl (by kernel_rfl) rfl rfl (bfalse hc2) (.func _) (ev3 rfl rfl rfl) (HInv.static Y79.at_ Y79.body (Y79.snd  hp15))) rfl ⟨.inl (by kernel_rfl),trivial⟩ ?_
  refine xfg 26 17 [25,17] rfl (bfalse hc2) (Zys · (.tmp rfl)) ?_
  try dsimp only [w0,w1,w2,w3]
  refine xf 27 [17,26] rfl (Zxm · (.tmp rfl) (bfalse hc2) (.tmp rfl)) ?_
  refine Zx5 rfl ?_
  refine rE ?_
  try dsimp only [w0,w1,w2,w3]
  exact J0_snd hD hH h
end Y14
namespace Y49
theorem at_ : FnAt Tryz.prog 95 Tryz.f95 := ⟨Tryz.func95,by kernel_rfl⟩
def d0 := (Tryz.f95.body).getD .skip
def r1 := kT d0
def r3 := kT (kB d0)
def r5 := kT (kW d0)
def d6 := kW (kB d0)
def r8 := kT (kA d6)
def d10 := kY (kA d6)
def r13 := kT (kX d10)
def r20 := kT (kX (kZ d10))
def r23 := kT (kY (kX (kZ d10)))
def r26 := kR (kW (kA d10))
def r28 := kT (kB d6)
def c27 : Code := .seq (.region 8 r28 false) .ret
def c11 : Code := .seq (.seq (.region 4 r13 false) (.cond (.tmp 9) .skip (.exit 0))) (.seq (.block 1 (.seq (.region 6 r20 false) (.cond (.tmp 16) (.seq (.region 7 r23 false) .ret) .skip))) (.region 5 r26 false))
def c0 : Code := .seq (.region 0 r1 false) (.seq (.region 1 r3 false) (.seq (.region 2 r5 false) (.seq (.seq (.region 3 r8 false) (.block 0 (.loop c11))) c27)))
theorem body : Tryz.f95.body = some c0 := by kernel_rfl
def L0 (k : Nat) : Nat → Int → (List UInt8) → (List UInt8) → Int → Option (Int)
 | 0,_,_,_,_ => none
 | n + 1,y0,y3,y4,y5 =>
  (if y5 < (List.length y3 : Int) then
  ((sat y3 y5).bind fun p2 =>
  (if (UInt8.toNat p2 : Int) = y0 then
  ((sat y4 y5).bind fun p4 =>
  some (UInt8.toNat p4 : Int)) else
  (L0 k n) y0 y3 y4 (w64 (y5 + 1)))) else
  some y0)
theorem L0_snd  : ∀ {n : Nat} ⦃y0 : Int⦄ ⦃y3 : (List UInt8)⦄ ⦃y4 : (List UInt8)⦄ ⦃y5 : Int⦄ ⦃S : HS⦄ ⦃p : Int⦄ ⦃j q N Gh i a G B M O K A C E I J L : HV⦄,L0 k n y0 y3 y4 y5 = some p → HR b w e 95 none [.inLoop c11,.inBlock 0,.code c27] ⟨[(.int .u8 y0),j,q,(.str y3),(.str y4),(.int .i64 y5),N,Gh,i,a,G,B,M,O,K,A,C,E,I,J,L],[]⟩ S (RR (.int .u8 p) S) := by
 intro n
 induction n with
 | zero => intro _ _ _ _ _ _ _ _ _ _ _ _ _ _ _ _ _ _ _ _ _ _ _ h; cases h
 | succ n ih =>
  intro y0 y3 y4 y5 S p j q N Gh i a G B M O K A C E I J L h
  simp only [L0] at h
  refine Zxz (qQ rfl (qT rfl rfl rfl (uM 6 rfl rfl (uM 7 rfl rfl (qS 8 rfl (Zyw · rfl tu9 (.tmp rfl)) (uB 9 rfl rfl rfl rfl (rE ?_)))))))
  dsimp only [w0,w1,w2,w3]
  rcases ifc h with ⟨hc1,h⟩ | ⟨hc1,h⟩
  ·obtain ⟨p2,hp2,h⟩ := bindo h
   refine Zxb rfl (.tmp rfl) (decide_eq_true hc1) (Zxd rfl (qQ rfl (Zxo rfl (qT rfl rfl rfl (uM 12 rfl rfl (uM 13 rfl rfl (qS 14 rfl (Zzv · tu9 (.tmp rfl) (.tmp rfl) hp2) (uM 15 rfl rfl ?_))))))))
   try dsimp only [w0,w1,w2,w3]
   refine uB 16 rfl rfl rfl rfl (rE ?_)
   dsimp only [w0,w1,w2,w3]
   rcases ifc h with ⟨hc3,h⟩ | ⟨hc3,h⟩
   ·obtain ⟨p4,hp4,h⟩ := bindo h
    refine Zxb rfl (.tmp rfl) (decide_eq_true hc3) (qT rfl rfl rfl (uM 17 rfl rfl (uM 18 rfl rfl (qS 19 rfl (Zzv · tu9 (.tmp rfl) (.tmp rfl) hp4) (uA 2 rfl rfl (rE ?_))))))
    cases h
    exact Zxl rfl at_.at_ rfl (res1 rfl rfl) ⟨rfl,rfl⟩
   ·refine Zxc rfl (.tmp rfl) (decide_eq_false hc3) (Zxd rfl (Zxf (qR rfl rfl (uM 10 rfl rfl (uC 11 rfl rfl rfl (uA 5 rfl rfl (rE ?_)))))))
    dsimp only [w0,w1,w2,w3]
    exact ih h
  ·refine Zxc rfl (.tmp rfl) (decide_eq_false hc1) (Zyh rfl rfl (qT rfl rfl rfl (uM 20 rfl rfl (uA 2 rfl rfl (rE ?_)))))
   cases h
   exact Zxl rfl at_.at_ rfl (res1 rfl rfl) ⟨rfl,rfl⟩
def f (k : Nat) (x0 : Int) : Option (Int) :=
 L0 k k x0 ([65,66,67,68,69,70,71,72,73,74,75,76,77,78,79,80,81,82,83,84,85,86,87,88,89,90,91,93,92,126] : List UInt8) ([97,98,99,100,101,102,103,104,105,106,107,108,109,110,111,112,113,114,115,116,117,118,119,120,121,122,123,125,124,94] : List UInt8) 0
theorem snd {x0 : Int}  {p : Int} (h : f k x0 = some p) : HC b w e 95 [(.int .u8 x0)] S (RR (.int .u8 p) S) := by
 unfold f at h
 refine HCall.of_run at_.at_ body ?_
 show HR b w e 95 none [.code c0] ⟨[(.int .u8 x0),z,z,z,z,z,z,z,z,z,z,z,z,z,z,z,z,z,z,z,z],[]⟩ S _
 refine qT rfl rfl rfl (qS 2 rfl (Zxa · (.int _ _)) (rE ?_))
 dsimp only [w0,w1,w2,w3]
 refine qT rfl rfl rfl (qS 3 rfl (Zxa · (.str _)) (rE ?_))
 dsimp only [w0,w1,w2,w3]
 refine qT rfl rfl rfl (qS 4 rfl (Zxa · (.str _)) (rE ?_))
 dsimp only [w0,w1,w2,w3]
 refine qQ rfl (qT rfl rfl rfl (qS 5 rfl (Zxa · (.int _ _)) (rE ?_)))
 dsimp only [w0,w1,w2,w3]
 refine Zxo rfl (Zye rfl ?_)
 try dsimp only [w0,w1,w2,w3]
 exact L0_snd  h
end Y49
namespace Y7
theorem at_ : FnAt Tryz.prog 64 Tryz.f64 := ⟨Tryz.func64,by kernel_rfl⟩
def d0 := (Tryz.f64.body).getD .skip
def r1 := kT d0
def r3 := kT (kB d0)
def d5 := kY (kB d0)
def r6 := kT d5
def r11 := kT (kX (kY d5))
def r17 := kT (kY (kX (kB d5)))
def r18 := kR (kW (kX (kB d5)))
def r20 := kT (kW (kB d0))
def c19 : Code := .seq (.region 6 r20 false) .ret
def c9 : Code := .seq (.seq (.region 3 r11 false) (.cond (.tmp 8) .skip (.exit 0))) (.seq (.block 1 (.region 5 r17 false)) (.region 4 r18 false))
def c0 : Code := .seq (.region 0 r1 false) (.seq (.region 1 r3 false) (.seq (.seq (.region 2 r6 false) (.block 0 (.loop c9))) c19))
theorem body : Tryz.f64.body = some c0 := by kernel_rfl
def L0 (k : Nat) : Nat → (List UInt8) → (List UInt8) → Int → HS → Option (((List UInt8)) × HS)
 | 0,_,_,_,_ => none
 | n + 1,y0,y3,y4,S =>
  (if y4 < (List.length y0 : Int) then
  ((sat y0 y4).bind fun p2 =>
  ((Y49.f k (UInt8.toNat p2 : Int)).bind fun p3 =>
  (letv (HS.lit S [[(.int .u8 p3)]] 1) fun p4 =>
  ((p4.2.text (p4.1)).bind fun p5 =>
  (if List.length y3 + List.length p5 ≤ 9223372036854775807 then
  (L0 k n) y0 (y3 ++ p5) (w64 (y4 + 1)) (p4.2) else none))))) else
  some (y3,S))
theorem L0_snd  : ∀ {n : Nat} ⦃y0 : (List UInt8)⦄ ⦃y3 : (List UInt8)⦄ ⦃y4 : Int⦄ ⦃S : HS⦄ ⦃p : ((List UInt8)) × HS⦄ ⦃j q o N Gh i a G B M O K A C E I J : HV⦄,L0 k n y0 y3 y4 S = some p → HR b w e 64 none [.inLoop c9,.inBlock 0,.code c19] ⟨[(.str y0),j,q,(.str y3),(.int .i64 y4),o,N,Gh,i,a,G,B,M,O,K,A,C,E,I,J],[]⟩ S (RR (.str p.1) p.2) := by
 intro n
 induction n with
 | zero => intro _ _ _ _ _ _ _ _ _ _ _ _ _ _ _ _ _ _ _ _ _ _ h; cases h
 | succ n ih =>
  intro y0 y3 y4 S p j q o N Gh i a G B M O K A C E I J h
  simp only [L0] at h
  refine Zxz (qQ rfl (qT rfl rfl rfl (uM 5 rfl rfl (uM 6 rfl rfl (qS 7 rfl (Zyw · rfl tu9 (.tmp rfl)) (uB 8 rfl rfl rfl rfl (rE ?_)))))))
  dsimp only [w0,w1,w2,w3]
  rcases ifc h with ⟨hc1,h⟩ | ⟨hc1,h⟩
  ·obtain ⟨p2,hp2,h⟩ := bindo h
   refine Zxb rfl (.tmp rfl) (decide_eq_true hc1) (Zxd rfl (qQ rfl (Zxo rfl (qR rfl rfl (uM 11 rfl rfl (uM 12 rfl rfl (uM 13 rfl rfl (qS 14 rfl (Zzv · tu9 (.tmp rfl) (.tmp rfl) hp2) ?_))))))))
   try dsimp only [w0,w1,w2,w3]
   obtain ⟨p3,hp3,h⟩ := bindo h
   refine uQ 15 rfl (.func _) (ev1 rfl) (HInv.static Y49.at_ Y49.body (Y49.snd  hp3)) ?_
   obtain ⟨p4,hp4,h⟩ := leto h
   obtain ⟨p5,hp5,h⟩ := bindo h
   obtain ⟨hg6,h⟩ := gd h
   refine qS 16 rfl (Zxp (xs := [(.tmp 15)]) el127 · rfl rfl (by decide) (ev1 rfl) rfl rfl hp4) (qS 17 rfl (Zaap (s := (p4.1)) · tu127 tu5 tu9 (.tmp rfl) hp5) (qS 18 rfl (ok_sadd · (.tmp rfl) (.tmp rfl) hg6) ?_))
   try dsimp only [w0,w1,w2,w3]
   refine uA 3 rfl rfl (rE ?_)
   dsimp only [w0,w1,w2,w3]
   refine Zxf (qR rfl rfl (uM 9 rfl rfl (uC 10 rfl rfl rfl (uA 4 rfl rfl (rE ?_)))))
   dsimp only [w0,w1,w2,w3]
   exact ih h
  ·refine Zxc rfl (.tmp rfl) (decide_eq_false hc1) (Zyh rfl rfl (qT rfl rfl rfl (uM 19 rfl rfl (uA 2 rfl rfl (rE ?_)))))
   cases h
   exact Zxl rfl at_.at_ rfl (res1 rfl rfl) ⟨rfl,rfl⟩
def f (k : Nat) (x0 : (List UInt8)) (S : HS) : Option (((List UInt8)) × HS) :=
 L0 k k x0 ([] : List UInt8) 0 S
theorem snd {x0 : (List UInt8)}  {p : ((List UInt8)) × HS} (h : f k x0 S = some p) : HC b w e 64 [(.str x0)] S (RR (.str p.1) p.2) := by
 unfold f at h
 refine HCall.of_run at_.at_ body ?_
 show HR b w e 64 none [.code c0] ⟨[(.str x0),z,z,z,z,z,z,z,z,z,z,z,z,z,z,z,z,z,z,z],[]⟩ S _
 refine qT rfl rfl rfl (qS 2 rfl (Zxa · (.str _)) (rE ?_))
 dsimp only [w0,w1,w2,w3]
 refine qT rfl rfl rfl (qS 3 rfl (Zxa · (.str _)) (rE ?_))
 dsimp only [w0,w1,w2,w3]
 refine qQ rfl (qT rfl rfl rfl (qS 4 rfl (Zxa · (.int _ _)) (rE ?_)))
 dsimp only [w0,w1,w2,w3]
 refine Zxo rfl (Zye rfl ?_)
 try dsimp only [w0,w1,w2,w3]
 exact L0_snd  h
end Y7
namespace Y82
theorem at_ : FnAt Tryz.prog 66 Tryz.f66 := ⟨Tryz.func66,by kernel_rfl⟩
def d0 := (Tryz.f66.body).getD .skip
def r1 := kT d0
def r3 := kT (kB d0)
def c0 : Code := .seq (.region 0 r1 false) (.seq (.region 1 r3 false) .ret)
theorem body : Tryz.f66.body = some c0 := by kernel_rfl
def f (k : Nat) (x0 : (List UInt8)) (x1 : (List UInt8)) (S : HS) : Option ((Bool) × HS) :=
 ((Y7.f k x0 S).bind fun p1 =>
 ((Y7.f k x1 p1.2).bind fun p2 =>
 some ((decide (p1.1 = p2.1)),p2.2)))
theorem snd {x0 : (List UInt8)} {x1 : (List UInt8)}  {p : (Bool) × HS} (h : f k x0 x1 S = some p) : HC b w e 66 [(.str x0),(.str x1)] S (RR (.bool p.1) p.2) := by
 unfold f at h
 refine HCall.of_run at_.at_ body ?_
 show HR b w e 66 none [.code c0] ⟨[(.str x0),(.str x1),z,z,z,z,z,z,z,z],[]⟩ S _
 refine qT rfl rfl rfl (qS 4 rfl (Zxa · (.bool _)) (rE ?_))
 dsimp only [w0,w1,w2,w3]
 obtain ⟨p1,hp1,h⟩ := bindo h
 refine qT rfl rfl rfl (uM 5 rfl rfl (uQ 6 rfl (.func _) (ev1 rfl) (HInv.static Y7.at_ Y7.body (Y7.snd  hp1)) ?_))
 obtain ⟨p2,hp2,h⟩ := bindo h
 refine uM 7 rfl rfl (uQ 8 rfl (.func _) (ev1 rfl) (HInv.static Y7.at_ Y7.body (Y7.snd  hp2)) ?_)
 try dsimp only [w0,w1,w2,w3]
 refine qS 9 rfl (Zzw · (.tmp rfl) (.tmp rfl) rfl) (uA 4 rfl rfl (rE ?_))
 cases h
 exact Zxl rfl at_.at_ rfl (res1 rfl rfl) ⟨rfl,rfl⟩
end Y82
namespace Y17
theorem at_ : FnAt Tryz.prog 32 Tryz.f32 := ⟨Tryz.func32,by kernel_rfl⟩
def d0 := (Tryz.f32.body).getD .skip
def r1 := kT d0
def r4 := kT (kY d0)
def d5 := kZ (kB d0)
def r9 := kT (kX (kA d5))
def d15 := kX (kZ (kA d5))
def r16 := kT d15
def r19 := kT (kY d15)
def r22 := kR (kW (kX d5))
def r24 := kT (kW d0)
def c23 : Code := .seq (.region 6 r24 false) .ret
def c7 : Code := .seq (.seq (.region 2 r9 false) (.cond (.tmp 12) .skip (.exit 0))) (.seq (.block 1 (.seq (.region 4 r16 false) (.cond (.tmp 26) (.seq (.region 5 r19 false) .ret) .skip))) (.region 3 r22 false))
def c0 : Code := .seq (.region 0 r1 false) (.seq (.seq (.region 1 r4 false) (.block 0 (.loop c7))) c23)
theorem body : Tryz.f32.body = some c0 := by kernel_rfl
def L0 (k : Nat) : Nat → HP → (List UInt8) → Int → HS → Option ((HP) × HS)
 | 0,_,_,_,_ => none
 | n + 1,y0,y1,y5,S =>
  (y0.bind fun p1 =>
  ((S.ldSl (HA.fld p1 3)).bind fun p2 =>
  (if y5 < (Sl.len p2 : Int) then
  (y0.bind fun p4 =>
  ((S.ldSl (HA.fld p4 3)).bind fun p5 =>
  ((S.idx p5 y5 1).bind fun p6 =>
  ((S.ldP p6).bind fun p7 =>
  (p7.bind fun p8 =>
  ((S.ldS (HA.fld p8 0)).bind fun p9 =>
  ((Y82.f k p9 y1 S).bind fun p10 =>
  (if p10.1 = true then
  (y0.bind fun p12 =>
  ((p10.2.ldSl (HA.fld p12 3)).bind fun p13 =>
  ((p10.2.idx p13 y5 1).bind fun p14 =>
  ((p10.2.ldP p14).bind fun p15 =>
  some (p15,p10.2))))) else
  (L0 k n) y0 y1 (w64 (y5 + 1)) p10.2)))))))) else
  some (none,S))))
theorem L0_snd  : ∀ {n : Nat} ⦃y0 : HP⦄ ⦃y1 : (List UInt8)⦄ ⦃y5 : Int⦄ ⦃S : HS⦄ ⦃p : (HP) × HS⦄ ⦃q m F N Gh i a G B M O K A C E I J L Q U V Z c d g r Kd Ke Kf Kg Kh : HV⦄,L0 k n y0 y1 y5 S = some p → HR b w e 32 none [.inLoop c7,.inBlock 0,.code c23] ⟨[(.ptr y0),(.str y1),q,m,F,(.int .i64 y5),N,Gh,i,a,G,B,M,O,K,A,C,E,I,J,L,Q,U,V,Z,c,d,g,r,Kd,Ke,Kf,Kg,Kh],[]⟩ S (RR (.ptr p.1) p.2) := by
 intro n
 induction n with
 | zero => intro _ _ _ _ _ _ _ _ _ _ _ _ _ _ _ _ _ _ _ _ _ _ _ _ _ _ _ _ _ _ _ _ _ _ _ _ h; cases h
 | succ n ih =>
  intro y0 y1 y5 S p q m F N Gh i a G B M O K A C E I J L Q U V Z c d g r Kd Ke Kf Kg Kh h
  simp only [L0] at h
  obtain ⟨p1,hp1,h⟩ := bindo h
  refine Zxz (qQ rfl (qT rfl rfl rfl (uM 6 rfl rfl (uM 7 rfl rfl (uN 8 rfl rfl hp1 (uF 9 rfl Zz7 (by decide) rfl rfl ?_))))))
  try dsimp only [w0,w1,w2,w3]
  obtain ⟨p2,hp2,h⟩ := bindo h
  refine uL 10 rfl sc30 rfl rfl (Zxj hp2) (qS 11 rfl (Zxg (q := Sl.a p2) (n := Sl.len p2) (z := Sl.cap p2) · rfl tu30 (.tmp rfl)) (uB 12 rfl rfl rfl rfl (rE ?_)))
  dsimp only [w0,w1,w2,w3]
  rcases ifc h with ⟨hc3,h⟩ | ⟨hc3,h⟩
  ·obtain ⟨p4,hp4,p5,hp5,h⟩ := bd2 h
   refine Zxb rfl (.tmp rfl) (decide_eq_true hc3) (Zxd rfl (qQ rfl (Zxo rfl (qT rfl rfl rfl (uM 15 rfl rfl (uN 16 rfl rfl hp4 (uF 17 rfl Zz7 (by decide) rfl rfl (uL 18 rfl sc30 rfl rfl (Zxj hp5) ?_))))))))
   try dsimp only [w0,w1,w2,w3]
   obtain ⟨p6,hp6,p7,hp7,p8,hp8,h⟩ := bd3 h
   refine uM 19 rfl rfl (qS 20 rfl (oX (s := p5) · tu30 sz39 rfl rfl hp6) (uL 21 rfl sc39 rfl rfl (Zx0 hp7) (uN 22 rfl rfl hp8 ?_)))
   try dsimp only [w0,w1,w2,w3]
   obtain ⟨p9,hp9,p10,hp10,h⟩ := bd2 h
   refine uF 23 rfl Zadk (by decide) rfl rfl (uL 24 rfl sc9 rfl rfl (Zx4 hp9) (uM 25 rfl rfl (uQ 26 rfl (.func _) (ev2 rfl rfl) (HInv.static Y82.at_ Y82.body (Y82.snd  hp10)) (rE ?_))))
   dsimp only [w0,w1,w2,w3]
   rcases ifc h with ⟨hc11,h⟩ | ⟨hc11,h⟩
   ·obtain ⟨p12,hp12,p13,hp13,h⟩ := bd2 h
    refine Zxb rfl (.tmp rfl) hc11 (qT rfl rfl rfl (uM 27 rfl rfl (uN 28 rfl rfl hp12 (uF 29 rfl Zz7 (by decide) rfl rfl (uL 30 rfl sc30 rfl rfl (Zxj hp13) ?_)))))
    try dsimp only [w0,w1,w2,w3]
    obtain ⟨p14,hp14,p15,hp15,h⟩ := bd2 h
    refine uM 31 rfl rfl (qS 32 rfl (oX (s := p13) · tu30 sz39 rfl rfl hp14) (uL 33 rfl sc39 rfl rfl (Zx0 hp15) (uA 4 rfl rfl (rE ?_))))
    cases h
    exact Zxl rfl at_.at_ rfl (res1 rfl rfl) ⟨rfl,rfl⟩
   ·refine Zxc rfl (.tmp rfl) (bfalse hc11) (Zxd rfl (Zxf (qR rfl rfl (uM 13 rfl rfl (uC 14 rfl rfl rfl (uA 5 rfl rfl (rE ?_)))))))
    dsimp only [w0,w1,w2,w3]
    exact ih h
  ·refine Zxc rfl (.tmp rfl) (decide_eq_false hc3) (Zyh rfl rfl (qT rfl rfl rfl (qS 4 rfl (Zxa · (.const fun _ => .ptrNil)) (rE ?_))))
   cases h
   exact Zxl rfl at_.at_ rfl (res1 rfl rfl) ⟨rfl,rfl⟩
def f (k : Nat) (x0 : HP) (x1 : (List UInt8)) (S : HS) : Option ((HP) × HS) :=
 L0 k k x0 x1 0 S
theorem snd {x0 : HP} {x1 : (List UInt8)}  {p : (HP) × HS} (h : f k x0 x1 S = some p) : HC b w e 32 [(.ptr x0),(.str x1)] S (RR (.ptr p.1) p.2) := by
 unfold f at h
 refine HCall.of_run at_.at_ body ?_
 show HR b w e 32 none [.code c0] ⟨[(.ptr x0),(.str x1),z,z,z,z,z,z,z,z,z,z,z,z,z,z,z,z,z,z,z,z,z,z,z,z,z,z,z,z,z,z,z,z],[]⟩ S _
 refine qT rfl rfl rfl (qS 4 rfl (Zxa · (.const fun _ => .ptrNil)) (rE ?_))
 dsimp only [w0,w1,w2,w3]
 refine qQ rfl (qT rfl rfl rfl (qS 5 rfl (Zxa · (.int _ _)) (rE ?_)))
 dsimp only [w0,w1,w2,w3]
 refine Zxo rfl (Zye rfl ?_)
 try dsimp only [w0,w1,w2,w3]
 exact L0_snd  h
end Y17
namespace Y4
theorem at_ : FnAt Tryz.prog 50 Tryz.f50 := ⟨Tryz.func50,by kernel_rfl⟩
def d0 := (Tryz.f50.body).getD .skip
def r1 := kT d0
def r4 := kT (kY d0)
def d5 := kZ (kB d0)
def r9 := kT (kX (kA d5))
def d15 := kX (kZ (kA d5))
def r16 := kT d15
def r19 := kT (kY d15)
def r22 := kR (kW (kX d5))
def r24 := kT (kW d0)
def c23 : Code := .seq (.region 6 r24 false) .ret
def c7 : Code := .seq (.seq (.region 2 r9 false) (.cond (.tmp 12) .skip (.exit 0))) (.seq (.block 1 (.seq (.region 4 r16 false) (.cond (.tmp 24) (.seq (.region 5 r19 false) .ret) .skip))) (.region 3 r22 false))
def c0 : Code := .seq (.region 0 r1 false) (.seq (.seq (.region 1 r4 false) (.block 0 (.loop c7))) c23)
theorem body : Tryz.f50.body = some c0 := by kernel_rfl
def L0 (k : Nat) : Nat → HP → Int → Int → HS → Option ((Int) × HS)
 | 0,_,_,_,_ => none
 | n + 1,y0,y1,y5,S =>
  (y0.bind fun p1 =>
  ((S.ldSl (HA.fld p1 2)).bind fun p2 =>
  (if y5 < (Sl.len p2 : Int) then
  (y0.bind fun p4 =>
  ((S.ldSl (HA.fld p4 2)).bind fun p5 =>
  ((S.idx p5 y5 3).bind fun p6 =>
  ((S.ldI .i64 (HA.fld p6 0)).bind fun p7 =>
  (if p7 = y1 then
  some (y5,S) else
  (L0 k n) y0 y1 (w64 (y5 + 1)) S))))) else
  some ((-1),S))))
theorem L0_snd  : ∀ {n : Nat} ⦃y0 : HP⦄ ⦃y1 : Int⦄ ⦃y5 : Int⦄ ⦃S : HS⦄ ⦃p : (Int) × HS⦄ ⦃q m F N Gh i a G B M O K A C E I J L Q U V Z c : HV⦄,L0 k n y0 y1 y5 S = some p → HR b w e 50 none [.inLoop c7,.inBlock 0,.code c23] ⟨[(.ptr y0),(.int .i64 y1),q,m,F,(.int .i64 y5),N,Gh,i,a,G,B,M,O,K,A,C,E,I,J,L,Q,U,V,Z,c],[]⟩ S (RR (.int .i64 p.1) p.2) := by
 intro n
 induction n with
 | zero => intro _ _ _ _ _ _ _ _ _ _ _ _ _ _ _ _ _ _ _ _ _ _ _ _ _ _ _ _ h; cases h
 | succ n ih =>
  intro y0 y1 y5 S p q m F N Gh i a G B M O K A C E I J L Q U V Z c h
  simp only [L0] at h
  obtain ⟨p1,hp1,h⟩ := bindo h
  refine Zxz (qQ rfl (qT rfl rfl rfl (uM 6 rfl rfl (uM 7 rfl rfl (uN 8 rfl rfl hp1 (uF 9 rfl Zaam (by decide) rfl rfl ?_))))))
  try dsimp only [w0,w1,w2,w3]
  obtain ⟨p2,hp2,h⟩ := bindo h
  refine uL 10 rfl sc87 rfl rfl (Zxj hp2) (qS 11 rfl (Zxg (q := Sl.a p2) (n := Sl.len p2) (z := Sl.cap p2) · rfl tu87 (.tmp rfl)) (uB 12 rfl rfl rfl rfl (rE ?_)))
  dsimp only [w0,w1,w2,w3]
  rcases ifc h with ⟨hc3,h⟩ | ⟨hc3,h⟩
  ·obtain ⟨p4,hp4,p5,hp5,h⟩ := bd2 h
   refine Zxb rfl (.tmp rfl) (decide_eq_true hc3) (Zxd rfl (qQ rfl (Zxo rfl (qT rfl rfl rfl (uM 15 rfl rfl (uN 16 rfl rfl hp4 (uF 17 rfl Zaam (by decide) rfl rfl (uL 18 rfl sc87 rfl rfl (Zxj hp5) ?_))))))))
   try dsimp only [w0,w1,w2,w3]
   obtain ⟨p6,hp6,p7,hp7,h⟩ := bd2 h
   refine uM 19 rfl rfl (qS 20 rfl (oX (s := p5) · tu87 sz62 rfl rfl hp6) (uF 21 rfl Zag7 (by decide) rfl rfl (uL 22 rfl sc3 rfl rfl (Zxq hp7) ?_)))
   try dsimp only [w0,w1,w2,w3]
   refine uM 23 rfl rfl (uB 24 rfl rfl rfl rfl (rE ?_))
   dsimp only [w0,w1,w2,w3]
   rcases ifc h with ⟨hc8,h⟩ | ⟨hc8,h⟩
   ·refine Zxb rfl (.tmp rfl) (decide_eq_true hc8) (qT rfl rfl rfl (uM 25 rfl rfl (uA 4 rfl rfl (rE ?_))))
    cases h
    exact Zxl rfl at_.at_ rfl (res1 rfl rfl) ⟨rfl,rfl⟩
   ·refine Zxc rfl (.tmp rfl) (decide_eq_false hc8) (Zxd rfl (Zxf (qR rfl rfl (uM 13 rfl rfl (uC 14 rfl rfl rfl (uA 5 rfl rfl (rE ?_)))))))
    dsimp only [w0,w1,w2,w3]
    exact ih h
  ·refine Zxc rfl (.tmp rfl) (decide_eq_false hc3) (Zyh rfl rfl (qT rfl rfl rfl (qS 4 rfl (Zxa · (.int _ _)) (rE ?_))))
   cases h
   exact Zxl rfl at_.at_ rfl (res1 rfl rfl) ⟨rfl,rfl⟩
def f (k : Nat) (x0 : HP) (x1 : Int) (S : HS) : Option ((Int) × HS) :=
 L0 k k x0 x1 0 S
theorem snd {x0 : HP} {x1 : Int}  {p : (Int) × HS} (h : f k x0 x1 S = some p) : HC b w e 50 [(.ptr x0),(.int .i64 x1)] S (RR (.int .i64 p.1) p.2) := by
 unfold f at h
 refine HCall.of_run at_.at_ body ?_
 show HR b w e 50 none [.code c0] ⟨[(.ptr x0),(.int .i64 x1),z,z,z,z,z,z,z,z,z,z,z,z,z,z,z,z,z,z,z,z,z,z,z,z],[]⟩ S _
 refine qT rfl rfl rfl (qS 4 rfl (Zxa · (.int _ _)) (rE ?_))
 dsimp only [w0,w1,w2,w3]
 refine qQ rfl (qT rfl rfl rfl (qS 5 rfl (Zxa · (.int _ _)) (rE ?_)))
 dsimp only [w0,w1,w2,w3]
 refine Zxo rfl (Zye rfl ?_)
 try dsimp only [w0,w1,w2,w3]
 exact L0_snd  h
end Y4
namespace Y36
theorem at_ : FnAt Tryz.prog 42 Tryz.f42 := ⟨Tryz.func42,by kernel_rfl⟩
def d0 := (Tryz.f42.body).getD .skip
def r1 := kT d0
def r3 := kT (kB d0)
def r6 := kT (kY (kB d0))
def r9 := kT (kY (kY (kB d0)))
def r13 := kT (kW (kB d0))
def r15 := kT (kW (kW d0))
def c0 : Code := .seq (.region 0 r1 false) (.seq (.region 1 r3 false) (.seq (.seq (.region 2 r6 false) (.cond (.tmp 10) (.seq (.region 3 r9 false) .ret) .skip)) (.seq (.region 4 r13 true) (.seq (.region 5 r15 false) .ret))))
theorem body : Tryz.f42.body = some c0 := by kernel_rfl
def f (k : Nat) (x0 : HP) (x1 : Int) (S : HS) : Option ((Bool) × HS) :=
 ((Y4.f k x0 x1 S).bind fun p1 =>
 (if p1.1 < 0 then
 some (false,p1.2) else
 (letv (HS.lit p1.2 [] 3) fun p3 =>
 (x0.bind fun p4 =>
 ((p3.2.ldSl (HA.fld p4 2)).bind fun p5 =>
 ((p1.2.ldSl (HA.fld p4 2)).bind fun p6 =>
 (if p6 = p5 then
 ((p3.2.cut p5 0 p1.1 3).bind fun p8 =>
 ((p1.2.cut p5 0 p1.1 3).bind fun p9 =>
 (if p9 = p8 then
 ((p3.2.rows p8 3).bind fun p11 =>
 ((p3.2.app (p3.1) p11 3).bind fun p12 =>
 (x0.bind fun p13 =>
 ((p12.2.ldSl (HA.fld p13 2)).bind fun p14 =>
 ((p3.2.ldSl (HA.fld p13 2)).bind fun p15 =>
 (if p15 = p14 then
 ((p1.2.ldSl (HA.fld p13 2)).bind fun p17 =>
 (if p17 = p14 then
 ((p12.2.cut p14 (w64 (p1.1 + 1)) (Sl.len p14 : Int) 3).bind fun p19 =>
 ((p3.2.cut p14 (w64 (p1.1 + 1)) (Sl.len p14 : Int) 3).bind fun p20 =>
 (if p20 = p19 then
 ((p1.2.cut p14 (w64 (p1.1 + 1)) (Sl.len p14 : Int) 3).bind fun p22 =>
 (if p22 = p19 then
 ((p12.2.rows p19 3).bind fun p24 =>
 ((p12.2.app (p12.1) p24 3).bind fun p25 =>
 (x0.bind fun p26 =>
 ((p25.2.sets (HA.fld p26 2) [(Sl.hv (p25.1))]).bind fun p27 =>
 some (true,p27))))) else none)) else none))) else none)) else none)))))) else none))) else none)))))))
theorem snd {x0 : HP} {x1 : Int}  {p : (Bool) × HS} (h : f k x0 x1 S = some p) : HC b w e 42 [(.ptr x0),(.int .i64 x1)] S (RR (.bool p.1) p.2) := by
 unfold f at h
 refine HCall.of_run at_.at_ body ?_
 show HR b w e 42 none [.code c0] ⟨[(.ptr x0),(.int .i64 x1),z,z,z,z,z,z,z,z,z,z,z,z,z,z,z,z,z,z,z,z,z,z,z,z,z,z,z,z],[]⟩ S _
 refine qT rfl rfl rfl (qS 4 rfl (Zxa · (.bool _)) (rE ?_))
 dsimp only [w0,w1,w2,w3]
 obtain ⟨p1,hp1,h⟩ := bindo h
 refine qT rfl rfl rfl (uM 6 rfl rfl (uM 7 rfl rfl (uQ 8 rfl (.func _) (ev2 rfl rfl) (HInv.static Y4.at_ Y4.body (Y4.snd  hp1)) (uA 5 rfl rfl (rE ?_)))))
 dsimp only [w0,w1,w2,w3]
 refine qQ rfl (qT rfl rfl rfl (uM 9 rfl rfl (uC 10 rfl rfl rfl (rE ?_))))
 dsimp only [w0,w1,w2,w3]
 rcases ifc h with ⟨hc2,h⟩ | ⟨hc2,h⟩
 ·refine Zxb rfl (.tmp rfl) (decide_eq_true hc2) (qT rfl rfl rfl (qS 4 rfl (Zxa · (.bool _)) (rE ?_)))
  cases h
  exact Zxl rfl at_.at_ rfl (res1 rfl rfl) ⟨rfl,rfl⟩
 ·refine Zxc rfl (.tmp rfl) (decide_eq_false hc2) (Zxd rfl (qQ rfl ?_))
  refine Zx8 (cls := [0,2,0,0,0,3,0,3,2,0,0,0,3,0,0,3,2,0,0,2]) (rk := [0,1,2,3,4,5,6,7,8,9,10,11,12,13,14,15,16,17,18,19]) rfl (by kernel_rfl) ?_
  refine xf 11 [0] rfl (oM · rfl) ?_
  obtain ⟨p3,hp3,h⟩ := leto h
  refine ze 12 [] rfl (Zxp (xs := []) el87 · rfl rfl (by decide) Evs.nil rfl rfl hp3) trivial ?_
  refine xf 13 [0] rfl (oM · rfl) ?_
  obtain ⟨p4,hp4,h⟩ := bindo h
  refine xf 14 [13] rfl (oN · rfl hp4) ?_
  try dsimp only [w0,w1,w2,w3]
  refine xf 15 [14] rfl (oF · Zaam (by decide) rfl rfl) ?_
  obtain ⟨p5,hp5,p6,hp6,h⟩ := bd2 h
  obtain ⟨hg7,h⟩ := gd h
  refine Zx3 (r_op (dst := some 16) (ts := [15]) rfl (by intro _ _ h; cases h) (by kernel_rfl) (fun _ ho => Zxs ho sc87 (.tmp rfl) rfl (Zxj hp5))) rfl ⟨.inr (l_op (dst := some 16) (ts := [15]) rfl (by intro _ _ h; cases h) (by kernel_rfl) (fun _ ho => Zxs ho sc87 (.tmp rfl) rfl (Zxj (hp6.trans (congrArg some hg7))))),trivial⟩ ?_
  refine xf 17 [5] rfl (oM · rfl) ?_
  obtain ⟨p8,hp8,p9,hp9,h⟩ := bd2 h
  obtain ⟨hg10,h⟩ := gd h
  refine Zx3 (r_op (dst := some 18) (ts := [16,17]) rfl (by intro _ _ h; cases h) (by kernel_rfl) (fun _ ho => Zxn (kl := .i64) (kh := .i64) (s := p5) (l := 0) (h := p1.1) ho tu87 si62 (.tmp rfl) (.inl ⟨rfl,rfl⟩) (.inr ⟨_,rfl,(.tmp rfl)⟩) hp8)) rfl ⟨.inr (l_op (dst := some 18) (ts := [16,17]) rfl (by intro _ _ h; cases h) (by kernel_rfl) (fun _ ho => Zxn (kl := .i64) (kh := .i64) (s := p5) (l := 0) (h := p1.1) ho tu87 si62 (.tmp rfl) (.inl ⟨rfl,rfl⟩) (.inr ⟨_,rfl,(.tmp rfl)⟩) (hp9.trans (congrArg some hg10)))),trivial⟩ ?_
  try dsimp only [w0,w1,w2,w3]
  obtain ⟨p11,hp11,p12,hp12,h⟩ := bd2 h
  refine ze 19 [12,18] rfl (Zx1 (s := (p3.1)) (s1 := p8) el87 · rfl rfl ⟨_,tu87⟩ (.tmp rfl) (.tmp rfl) hp11 hp12) ⟨.inl (by kernel_rfl),.inl (by kernel_rfl),trivial⟩ ?_
  refine xf 20 [0] rfl (oM · rfl) ?_
  obtain ⟨p13,hp13,h⟩ := bindo h
  refine xf 21 [20] rfl (oN · rfl hp13) ?_
  refine xf 22 [21] rfl (oF · Zaam (by decide) rfl rfl) ?_
  try dsimp only [w0,w1,w2,w3]
  obtain ⟨p14,hp14,p15,hp15,h⟩ := bd2 h
  obtain ⟨hg16,h⟩ := gd h
  obtain ⟨p17,hp17,h⟩ := bindo h
  obtain ⟨hg18,h⟩ := gd h
  refine Zx3 (r_op (dst := some 23) (ts := [22]) rfl (by intro _ _ h; cases h) (by kernel_rfl) (fun _ ho => Zxs ho sc87 (.tmp rfl) rfl (Zxj hp14))) rfl ⟨.inr (l_op (dst := some 23) (ts := [22]) rfl (by intro _ _ h; cases h) (by kernel_rfl) (fun _ ho => Zxs ho sc87 (.tmp rfl) rfl (Zxj (hp15.trans (congrArg some hg16))))),.inr (l_op (dst := some 23) (ts := [22]) rfl (by intro _ _ h; cases h) (by kernel_rfl) (fun _ ho => Zxs ho sc87 (.tmp rfl) rfl (Zxj (hp17.trans (congrArg some hg18))))),trivial⟩ ?_
  refine xf 24 [5] rfl (oM · rfl) ?_
  refine xf 25 [24] rfl (oC · rfl rfl) ?_
  obtain ⟨p19,hp19,p20,hp20,h⟩ := bd2 h
  obtain ⟨hg21,h⟩ := gd h
  obtain ⟨p22,hp22,h⟩ := bindo h
  obtain ⟨hg23,h⟩ := gd h
  refine Zx3 (r_op (dst := some 26) (ts := [23,25]) rfl (by intro _ _ h; cases h) (by kernel_rfl) (fun _ ho => Zxn (kl := .i64) (kh := .i64) (s := p14) (l := (w64 (p1.1 + 1))) (h := (Sl.len p14 : Int)) ho tu87 si62 (.tmp rfl) (.inr ⟨_,rfl,(.tmp rfl)⟩) (.inl ⟨rfl,rfl⟩) hp19)) rfl ⟨.inr (l_op (dst := some 26) (ts := [23,25]) rfl (by intro _ _ h; cases h) (by kernel_rfl) (fun _ ho => Zxn (kl := .i64) (kh := .i64) (s := p14) (l := (w64 (p1.1 + 1))) (h := (Sl.len p14 : Int)) ho tu87 si62 (.tmp rfl) (.inr ⟨_,rfl,(.tmp rfl)⟩) (.inl ⟨rfl,rfl⟩) (hp20.trans (congrArg some hg21)))),.inr (l_op (dst := some 26) (ts := [23,25]) rfl (by intro _ _ h; cases h) (by kernel_rfl) (fun _ ho => Zxn (kl := .i64) (kh := .i64) (s := p14) (l := (w64 (p1.1 + 1))) (h := (Sl.len p14 : Int)) ho tu87 si62 (.tmp rfl) (.inr ⟨_,rfl,(.tmp rfl)⟩) (.inl ⟨rfl,rfl⟩) (hp22.trans (congrArg some hg23)))),trivial⟩ ?_
  try dsimp only [w0,w1,w2,w3]
  obtain ⟨p24,hp24,p25,hp25,h⟩ := bd2 h
  refine ze 27 [19,26] rfl (Zx1 (s := (p12.1)) (s1 := p19) el87 · rfl rfl ⟨_,tu87⟩ (.tmp rfl) (.tmp rfl) hp24 hp25) ⟨.inl (by kernel_rfl),.inl (by kernel_rfl),.inl (by kernel_rfl),.inl (by kernel_rfl),trivial⟩ ?_
  obtain ⟨p26,hp26,h⟩ := bindo h
  refine xf 28 [11] rfl (oN · rfl hp26) ?_
  refine xf 29 [28] rfl (oF · Zaam (by decide) rfl rfl) ?_
  obtain ⟨p27,hp27,h⟩ := bindo h
  refine Zzc (e_op (dst := none) (ts := [29,27]) rfl (by intro _ _ h; cases h) (by kernel_rfl) (fun _ ho => Zxk (v := (Sl.hv (p25.1))) ho sz87 (.tmp rfl) rfl (.tmp rfl) rfl hp27)) rfl ⟨.inl (by kernel_rfl),.inl (by kernel_rfl),.inl (by kernel_rfl),.inl (by kernel_rfl),trivial⟩ ?_
  refine Zx5 rfl ?_
  refine rE ?_
  try dsimp only [w0,w1,w2,w3]
  refine qT rfl rfl rfl (qS 4 rfl (Zxa · (.bool _)) (rE ?_))
  cases h
  exact Zxl rfl at_.at_ rfl (res1 rfl rfl) ⟨rfl,rfl⟩
end Y36
namespace Y5
theorem at_ : FnAt Tryz.prog 11 Tryz.f11 := ⟨Tryz.func11,by kernel_rfl⟩
def d0 := (Tryz.f11.body).getD .skip
def r1 := kT d0
def r3 := kT (kB d0)
def r6 := kT (kY (kB d0))
def r9 := kT (kY (kY (kB d0)))
def d12 := kW (kB d0)
def r14 := kT (kA d12)
def d16 := kY (kA d12)
def r17 := kT d16
def r20 := kT (kY d16)
def d21 := kZ (kB d16)
def r25 := kT (kX (kA d21))
def d31 := kX (kZ (kA d21))
def r32 := kT d31
def r34 := kT (kB d31)
def r36 := kR (kW (kX d21))
def r37 := kR (kW d16)
def r40 := kT (kB d12)
def c39 : Code := .seq (.region 12 r40 false) .ret
def c37 : Code := .region 11 r37 false
def c36 : Code := .region 8 r36 false
def c23 : Code := .seq (.seq (.region 7 r25 false) (.cond (.tmp 33) .skip (.exit 0))) (.seq (.block 1 (.seq (.region 9 r32 false) (.cond (.tmp 44) (.region 10 r34 false) .skip))) c36)
def c12 : Code := .seq (.seq (.region 4 r14 false) (.cond (.tmp 26) (.seq (.region 5 r17 false) (.seq (.seq (.region 6 r20 false) (.block 0 (.loop c23))) c37)) .skip)) c39
def c7 : Code := .cond (.tmp 20) (.seq (.region 3 r9 false) .ret) .skip
def c0 : Code := .seq (.region 0 r1 false) (.seq (.region 1 r3 false) (.seq (.seq (.region 2 r6 false) c7) c12))
theorem body : Tryz.f11.body = some c0 := by kernel_rfl
variable {y0 y7 : HP} {y8 : Sl} {y9 : Int} {y20 : Bool}
def J2 (k : Nat) (rec0 : HP → HP → Sl → Int → HS → Option ((Bool) × HS)) (y0 : HP) (y7 : HP) (y8 : Sl) (y9 : Int) (S : HS) : Option ((Bool) × HS) :=
 rec0 y0 y7 y8 (w64 (y9 + 1)) S
theorem J2_snd {rec0 : HP → HP → Sl → Int → HS → Option ((Bool) × HS)} (hrec0 : ∀ ⦃y0 : HP⦄ ⦃y7 : HP⦄ ⦃y8 : Sl⦄ ⦃y9 : Int⦄ ⦃S : HS⦄ ⦃p : (Bool) × HS⦄ ⦃j q m F o N G B M O K A C E I J L Q U V Z c d g r Kd Ke Kf Kg Kh Ki Kj Kk Kl Km Kn Ko Kp Kq Kr Ks Kt Ku Kv Kw Kx Ky Kz Ma Mb Mc Md Me Mf Mg : HV⦄,rec0 y0 y7 y8 y9 S = some p → HR b w e 11 none [.inLoop c23,.inBlock 0,.code c37,.code c39] ⟨[(.ptr y0),j,q,m,F,o,N,(.ptr y7),(Sl.hv y8),(.int .i64 y9),G,B,M,O,K,A,C,E,I,J,L,Q,U,V,Z,c,d,g,r,Kd,Ke,Kf,Kg,Kh,Ki,Kj,Kk,Kl,Km,Kn,Ko,Kp,Kq,Kr,Ks,Kt,Ku,Kv,Kw,Kx,Ky,Kz,Ma,Mb,Mc,Md,Me,Mf,Mg],[]⟩ S (RR (.bool p.1) p.2)) {p : (Bool) × HS} (h : J2 k rec0 y0 y7 y8 y9 S = some p) : HR b w e 11 none [.code c36,.inLoop c23,.inBlock 0,.code c37,.code c39] ⟨[(.ptr y0),j,q,m,F,o,N,(.ptr y7),(Sl.hv y8),(.int .i64 y9),G,B,M,O,K,A,C,E,I,J,L,Q,U,V,Z,c,d,g,r,Kd,Ke,Kf,Kg,Kh,Ki,Kj,Kk,Kl,Km,Kn,Ko,Kp,Kq,Kr,Ks,Kt,Ku,Kv,Kw,Kx,Ky,Kz,Ma,Mb,Mc,Md,Me,Mf,Mg],[]⟩ S (RR (.bool p.1) p.2) := by
 unfold J2 at h
 refine qR rfl rfl (uM 34 rfl rfl (uC 35 rfl rfl rfl (uA 9 rfl rfl (rE ?_))))
 dsimp only [w0,w1,w2,w3]
 exact hrec0 h
def J3 (k : Nat) (S : HS) : Option ((Bool) × HS) :=
 some (true,S)
theorem J3_snd  {p : (Bool) × HS} (h : J3 k S = some p) : HR b w e 11 none [.code c39] ⟨[Ga,j,q,m,F,o,N,Gh,i,a,G,B,M,O,K,A,C,E,I,J,L,Q,U,V,Z,c,d,g,r,Kd,Ke,Kf,Kg,Kh,Ki,Kj,Kk,Kl,Km,Kn,Ko,Kp,Kq,Kr,Ks,Kt,Ku,Kv,Kw,Kx,Ky,Kz,Ma,Mb,Mc,Md,Me,Mf,Mg],[]⟩ S (RR (.bool p.1) p.2) := by
 unfold J3 at h
 refine qT rfl rfl rfl (qS 6 rfl (Zxa · (.bool _)) (rE ?_))
 cases h
 exact Zxl rfl at_.at_ rfl (res1 rfl rfl) ⟨rfl,rfl⟩
def L1 (k : Nat) : Nat → HP → HP → Sl → Int → HS → Option ((Bool) × HS)
 | 0,_,_,_,_,_ => none
 | n + 1,y0,y7,y8,y9,S =>
  (y0.bind fun p7 =>
  ((S.ldSl (HA.fld p7 3)).bind fun p8 =>
  (if y9 < (Sl.len p8 : Int) then
  (y0.bind fun p10 =>
  ((S.ldSl (HA.fld p10 3)).bind fun p11 =>
  ((S.idx p11 y9 1).bind fun p12 =>
  ((S.ldP p12).bind fun p13 =>
  ((S.pEq p13 y7).bind fun p14 =>
  (if (!p14) = true then
  (y0.bind fun p16 =>
  ((S.ldSl (HA.fld p16 3)).bind fun p17 =>
  ((S.idx p17 y9 1).bind fun p18 =>
  ((S.ldP p18).bind fun p19 =>
  (letv (HS.lit S [[(.ptr p19)]] 1) fun p20 =>
  ((p20.2.rows (p20.1) 1).bind fun p21 =>
  ((p20.2.app y8 p21 1).bind fun p22 =>
  J2 k (L1 k n) y0 y7 (p22.1) y9 (p22.2)))))))) else
  J2 k (L1 k n) y0 y7 y8 y9 S)))))) else
  (y0.bind fun p23 =>
  ((S.sets (HA.fld p23 3) [(Sl.hv y8)]).bind fun p24 =>
  J3 k p24)))))
theorem L1_snd  : ∀ {n : Nat} ⦃y0 : HP⦄ ⦃y7 : HP⦄ ⦃y8 : Sl⦄ ⦃y9 : Int⦄ ⦃S : HS⦄ ⦃p : (Bool) × HS⦄ ⦃j q m F o N G B M O K A C E I J L Q U V Z c d g r Kd Ke Kf Kg Kh Ki Kj Kk Kl Km Kn Ko Kp Kq Kr Ks Kt Ku Kv Kw Kx Ky Kz Ma Mb Mc Md Me Mf Mg : HV⦄,L1 k n y0 y7 y8 y9 S = some p → HR b w e 11 none [.inLoop c23,.inBlock 0,.code c37,.code c39] ⟨[(.ptr y0),j,q,m,F,o,N,(.ptr y7),(Sl.hv y8),(.int .i64 y9),G,B,M,O,K,A,C,E,I,J,L,Q,U,V,Z,c,d,g,r,Kd,Ke,Kf,Kg,Kh,Ki,Kj,Kk,Kl,Km,Kn,Ko,Kp,Kq,Kr,Ks,Kt,Ku,Kv,Kw,Kx,Ky,Kz,Ma,Mb,Mc,Md,Me,Mf,Mg],[]⟩ S (RR (.bool p.1) p.2) := by
 intro n
 induction n with
 | zero => intro _ _ _ _ _ _ _ _ _ _ _ _ _ _ _ _ _ _ _ _ _ _ _ _ _ _ _ _ _ _ _ _ _ _ _ _ _ _ _ _ _ _ _ _ _ _ _ _ _ _ _ _ _ _ _ _ _ _ _ _ _ h; cases h
 | succ n ih =>
  intro y0 y7 y8 y9 S p j q m F o N G B M O K A C E I J L Q U V Z c d g r Kd Ke Kf Kg Kh Ki Kj Kk Kl Km Kn Ko Kp Kq Kr Ks Kt Ku Kv Kw Kx Ky Kz Ma Mb Mc Md Me Mf Mg h
  simp only [L1] at h
  obtain ⟨p7,hp7,h⟩ := bindo h
  refine Zxz (qQ rfl (qT rfl rfl rfl (uM 27 rfl rfl (uM 28 rfl rfl (uN 29 rfl rfl hp7 (uF 30 rfl Zz7 (by decide) rfl rfl ?_))))))
  try dsimp only [w0,w1,w2,w3]
  obtain ⟨p8,hp8,h⟩ := bindo h
  refine uL 31 rfl sc30 rfl rfl (Zxj hp8) (qS 32 rfl (Zxg (q := Sl.a p8) (n := Sl.len p8) (z := Sl.cap p8) · rfl tu30 (.tmp rfl)) (uB 33 rfl rfl rfl rfl (rE ?_)))
  dsimp only [w0,w1,w2,w3]
  rcases ifc h with ⟨hc9,h⟩ | ⟨hc9,h⟩
  ·obtain ⟨p10,hp10,p11,hp11,h⟩ := bd2 h
   refine Zxb rfl (.tmp rfl) (decide_eq_true hc9) (Zxd rfl (qQ rfl (Zxo rfl (qT rfl rfl rfl (uM 36 rfl rfl (uN 37 rfl rfl hp10 (uF 38 rfl Zz7 (by decide) rfl rfl (uL 39 rfl sc30 rfl rfl (Zxj hp11) ?_))))))))
   try dsimp only [w0,w1,w2,w3]
   obtain ⟨p12,hp12,p13,hp13,h⟩ := bd2 h
   refine uM 40 rfl rfl (qS 41 rfl (oX (s := p11) · tu30 sz39 rfl rfl hp12) (uL 42 rfl sc39 rfl rfl (Zx0 hp13) (uM 43 rfl rfl ?_)))
   try dsimp only [w0,w1,w2,w3]
   obtain ⟨p14,hp14,h⟩ := bindo h
   refine qS 44 rfl (Zahl · tu39 ij89 (.tmp rfl) (.tmp rfl) hp14 (.inr ⟨rfl,rfl⟩)) (rE ?_)
   dsimp only [w0,w1,w2,w3]
   rcases ifc h with ⟨hc15,h⟩ | ⟨hc15,h⟩
   ·obtain ⟨p16,hp16,h⟩ := bindo h
    refine Zxb rfl (.tmp rfl) hc15 (qR rfl rfl (uM 45 rfl rfl (uM 46 rfl rfl (uN 47 rfl rfl hp16 (uF 48 rfl Zz7 (by decide) rfl rfl ?_)))))
    try dsimp only [w0,w1,w2,w3]
    obtain ⟨p17,hp17,p18,hp18,p19,hp19,h⟩ := bd3 h
    refine uL 49 rfl sc30 rfl rfl (Zxj hp17) (uM 50 rfl rfl (qS 51 rfl (oX (s := p17) · tu30 sz39 rfl rfl hp18) (uL 52 rfl sc39 rfl rfl (Zx0 hp19) ?_)))
    try dsimp only [w0,w1,w2,w3]
    obtain ⟨p20,hp20,h⟩ := leto h
    obtain ⟨p21,hp21,p22,hp22,h⟩ := bd2 h
    refine qS 53 rfl (Zxp (xs := [(.tmp 52)]) el30 · rfl rfl (by decide) (ev1 rfl) rfl rfl hp20) (qS 54 rfl (Zx1 (s := y8) (s1 := (p20.1)) el30 · rfl rfl ⟨_,tu30⟩ (.tmp rfl) (.tmp rfl) hp21 hp22) (uA 8 rfl rfl (rE ?_)))
    dsimp only [w0,w1,w2,w3]
    refine Zxf ?_
    try dsimp only [w0,w1,w2,w3]
    exact J2_snd ih h
   ·refine Zxc rfl (.tmp rfl) (bfalse hc15) (Zxd rfl (Zxf ?_))
    try dsimp only [w0,w1,w2,w3]
    exact J2_snd ih h
  ·obtain ⟨p23,hp23,h⟩ := bindo h
   refine Zxc rfl (.tmp rfl) (decide_eq_false hc9) (Zyh rfl rfl (qR rfl rfl (uM 55 rfl rfl (uM 56 rfl rfl (uN 57 rfl rfl hp23 (uF 58 rfl Zz7 (by decide) rfl rfl ?_))))))
   try dsimp only [w0,w1,w2,w3]
   obtain ⟨p24,hp24,h⟩ := bindo h
   refine qN rfl (Zxk (v := (Sl.hv y8)) · sz30 (.tmp rfl) rfl (.tmp rfl) rfl hp24) (rE ?_)
   try dsimp only [w0,w1,w2,w3]
   exact J3_snd  h
def J0 (k : Nat) (y0 : HP) (y7 : HP) (y20 : Bool) (S : HS) : Option ((Bool) × HS) :=
 (if y20 = true then
 some (false,S) else
 (y7.bind fun p4 =>
 ((S.ldSl (HA.fld p4 2)).bind fun p5 =>
 (if (Sl.len p5 : Int) = 0 then
 L1 k k y0 y7 Sl.nil 0 S else
 J3 k S))))
theorem J0_snd  {p : (Bool) × HS} (h : J0 k y0 y7 y20 S = some p) : HR b w e 11 none [.code c7,.code c12] ⟨[(.ptr y0),j,q,m,F,o,N,(.ptr y7),i,a,G,B,M,O,K,A,C,E,I,J,(.bool y20),Q,U,V,Z,c,d,g,r,Kd,Ke,Kf,Kg,Kh,Ki,Kj,Kk,Kl,Km,Kn,Ko,Kp,Kq,Kr,Ks,Kt,Ku,Kv,Kw,Kx,Ky,Kz,Ma,Mb,Mc,Md,Me,Mf,Mg],[]⟩ S (RR (.bool p.1) p.2) := by
 unfold J0 at h
 rcases ifc h with ⟨hc3,h⟩ | ⟨hc3,h⟩
 ·refine Zxb rfl (.tmp rfl) hc3 (qT rfl rfl rfl (qS 6 rfl (Zxa · (.bool _)) (rE ?_)))
  cases h
  exact Zxl rfl at_.at_ rfl (res1 rfl rfl) ⟨rfl,rfl⟩
 ·obtain ⟨p4,hp4,p5,hp5,h⟩ := bd2 h
  refine Zxc rfl (.tmp rfl) (bfalse hc3) (Zxd rfl (qQ rfl (qT rfl rfl rfl (uM 21 rfl rfl (uN 22 rfl rfl hp4 (uF 23 rfl Zaam (by decide) rfl rfl (uL 24 rfl sc87 rfl rfl (Zxj hp5) ?_)))))))
  try dsimp only [w0,w1,w2,w3]
  refine qS 25 rfl (Zxg (q := Sl.a p5) (n := Sl.len p5) (z := Sl.cap p5) · rfl tu87 (.tmp rfl)) (uC 26 rfl rfl rfl (rE ?_))
  dsimp only [w0,w1,w2,w3]
  rcases ifc h with ⟨hc6,h⟩ | ⟨hc6,h⟩
  ·refine Zxb rfl (.tmp rfl) (decide_eq_true hc6) (qT rfl rfl rfl (qS 8 rfl (Zxa · (.const fun _ => .slNil none)) (rE ?_)))
   dsimp only [w0,w1,w2,w3]
   refine qQ rfl (qT rfl rfl rfl (qS 9 rfl (Zxa · (.int _ _)) (rE ?_)))
   dsimp only [w0,w1,w2,w3]
   refine Zxo rfl (Zye rfl ?_)
   try dsimp only [w0,w1,w2,w3]
   exact L1_snd  h
  ·refine Zxc rfl (.tmp rfl) (decide_eq_false hc6) (Zxd rfl ?_)
   try dsimp only [w0,w1,w2,w3]
   exact J3_snd  h
def f (k : Nat) (x0 : HP) (x1 : Int) (x2 : (List UInt8)) (S : HS) : Option ((Bool) × HS) :=
 ((Y17.f k x0 x2 S).bind fun p1 =>
 (if (Option.isNone p1.1) = true then
 J0 k x0 p1.1 true p1.2 else
 ((Y36.f k p1.1 x1 p1.2).bind fun p25 =>
 J0 k x0 p1.1 (!p25.1) p25.2)))
theorem snd {x0 : HP} {x1 : Int} {x2 : (List UInt8)}  {p : (Bool) × HS} (h : f k x0 x1 x2 S = some p) : HC b w e 11 [(.ptr x0),(.int .i64 x1),(.str x2)] S (RR (.bool p.1) p.2) := by
 unfold f at h
 refine HCall.of_run at_.at_ body ?_
 show HR b w e 11 none [.code c0] ⟨[(.ptr x0),(.int .i64 x1),(.str x2),z,z,z,z,z,z,z,z,z,z,z,z,z,z,z,z,z,z,z,z,z,z,z,z,z,z,z,z,z,z,z,z,z,z,z,z,z,z,z,z,z,z,z,z,z,z,z,z,z,z,z,z,z,z,z,z],[]⟩ S _
 refine qT rfl rfl rfl (qS 6 rfl (Zxa · (.bool _)) (rE ?_))
 dsimp only [w0,w1,w2,w3]
 obtain ⟨p1,hp1,h⟩ := bindo h
 refine qT rfl rfl rfl (uM 10 rfl rfl (uM 11 rfl rfl (uQ 12 rfl (.func _) (ev2 rfl rfl) (HInv.static Y17.at_ Y17.body (Y17.snd  hp1)) (uA 7 rfl rfl (rE ?_)))))
 dsimp only [w0,w1,w2,w3]
 refine qQ rfl (qT rfl rfl rfl (uM 13 rfl rfl (qS 14 rfl (Zxt · tu39 (.tmp rfl) (.inl ⟨rfl,rfl⟩)) (uM 15 rfl rfl ?_))))
 rcases ifc h with ⟨hc2,h⟩ | ⟨hc2,h⟩
 ·refine Zxi (dst := some 16) (t := 15) rfl rfl rfl hc2 ?_
  try dsimp only [w0,w1,w2,w3]
  refine Zxi (dst := some 17) (t := 15) rfl rfl rfl hc2 (Zxi (dst := some 18) (t := 15) rfl rfl rfl hc2 (Zxi (dst := some 19) (t := 15) rfl rfl rfl hc2 (qS 20 rfl (Zxh · (.tmp rfl) hc2 (.bool _)) (rE ?_))))
  dsimp only [w0,w1,w2,w3]
  exact J0_snd  h
 ·refine qG 15 16 rfl (bfalse hc2) (oM · rfl) ?_
  try dsimp only [w0,w1,w2,w3]
  obtain ⟨p25,hp25,h⟩ := bindo h
  refine qG 15 17 rfl (bfalse hc2) (oM · rfl) (Zyp (t := 15) (dst := some 18) rfl rfl rfl (bfalse hc2) (.func _) (ev2 rfl rfl) (HInv.static Y36.at_ Y36.body (Y36.snd  hp25)) ?_)
  rintro _ _ ⟨rfl,rfl⟩
  refine qG 15 19 rfl (bfalse hc2) (Zys · (.tmp rfl)) (qS 20 rfl (Zxm · (.tmp rfl) (bfalse hc2) (.tmp rfl)) (rE ?_))
  dsimp only [w0,w1,w2,w3]
  exact J0_snd  h
end Y5
namespace Y6
theorem at_ : FnAt Tryz.prog 25 Tryz.f25 := ⟨Tryz.func25,by kernel_rfl⟩
def d0 := (Tryz.f25.body).getD .skip
def r1 := kT d0
def r4 := kT (kY d0)
def r7 := kT (kY (kY d0))
def r11 := kT (kW d0)
def c0 : Code := .seq (.region 0 r1 false) (.seq (.seq (.region 1 r4 false) (.cond (.tmp 4) (.seq (.region 2 r7 false) .ret) .skip)) (.seq (.region 3 r11 false) .ret))
theorem body : Tryz.f25.body = some c0 := by kernel_rfl
def f (x0 : HP) (S : HS) : Option (((List UInt8)) × HS) :=
 (if (Option.isNone x0) = true then
 some (([] : List UInt8),S) else
 (x0.bind fun p2 =>
 ((S.ldS (HA.fld p2 0)).bind fun p3 =>
 some (p3,S))))
theorem snd {x0 : HP}  {p : ((List UInt8)) × HS} (h : f x0 S = some p) : HC b w e 25 [(.ptr x0)] S (RR (.str p.1) p.2) := by
 unfold f at h
 refine HCall.of_run at_.at_ body ?_
 show HR b w e 25 none [.code c0] ⟨[(.ptr x0),z,z,z,z,z,z,z,z],[]⟩ S _
 refine qT rfl rfl rfl (qS 2 rfl (Zxa · (.str _)) (rE ?_))
 dsimp only [w0,w1,w2,w3]
 refine qQ rfl (qT rfl rfl rfl (uM 3 rfl rfl (qS 4 rfl (Zxt · tu36 (.tmp rfl) (.inl ⟨rfl,rfl⟩)) (rE ?_))))
 dsimp only [w0,w1,w2,w3]
 rcases ifc h with ⟨hc1,h⟩ | ⟨hc1,h⟩
 ·refine Zxb rfl (.tmp rfl) hc1 (qT rfl rfl rfl (qS 2 rfl (Zxa · (.str _)) (rE ?_)))
  cases h
  exact Zxl rfl at_.at_ rfl (res1 rfl rfl) ⟨rfl,rfl⟩
 ·obtain ⟨p2,hp2,p3,hp3,h⟩ := bd2 h
  refine Zxc rfl (.tmp rfl) (bfalse hc1) (Zxd rfl (qT rfl rfl rfl (uM 5 rfl rfl (uN 6 rfl rfl hp2 (uF 7 rfl fi114_0 (by decide) rfl rfl (uL 8 rfl sc9 rfl rfl (Zx4 hp3) ?_))))))
  try dsimp only [w0,w1,w2,w3]
  refine uA 2 rfl rfl (rE ?_)
  cases h
  exact Zxl rfl at_.at_ rfl (res1 rfl rfl) ⟨rfl,rfl⟩
end Y6
namespace Y39
theorem at_ : FnAt Tryz.prog 28 Tryz.f28 := ⟨Tryz.func28,by kernel_rfl⟩
def d0 := (Tryz.f28.body).getD .skip
def r1 := kT d0
def r3 := kT (kB d0)
def d5 := kY (kB d0)
def r6 := kT d5
def r9 := kT (kY d5)
def r12 := kT (kY (kY d5))
def r13 := kR (kZ (kZ (kB d5)))
def r15 := kT (kW (kB d0))
def c10 : Code := .block 1 (.seq (.region 4 r12 true) (.region 5 r13 false))
def c9 : Code := .region 3 r9 false
def c0 : Code := .seq (.region 0 r1 false) (.seq (.region 1 r3 false) (.seq (.seq (.region 2 r6 false) (.block 0 (.rangeFunc (.tmp 9) #[10] c9 c10))) (.seq (.region 6 r15 false) .ret)))
theorem body : Tryz.f28.body = some c0 := by kernel_rfl
variable {y2 y3 y5 y10 : HP}
def J0 (D : Dp) (H : Hd) (k : Nat) (l : Nat) (y2 : HP) (y3 : HP) (y5 : HP) (y10 : HP) (S : HS) : Option (HV × HS) :=
 ((S.begin_ l).bind fun p8 =>
 (y2.bind fun p9 =>
 ((p8.ldP p9).bind fun p10 =>
 (y3.bind fun p11 =>
 ((p8.ldI .i64 p11).bind fun p12 =>
 ((Y6.f y10 p8).bind fun p13 =>
 ((p13.2.ldI .i64 p11).bind fun p14 =>
 (if p14 = p12 then
 ((p13.2.ldP p9).bind fun p16 =>
 (if p16 = p10 then
 ((Y14.f D H k p10 p12 p13.1 p13.2).bind fun p18 =>
 (y5.bind fun p19 =>
 ((p18.2.ldI .i64 p19).bind fun p20 =>
 (y5.bind fun p21 =>
 ((p18.2.sets p21 [(.int .i64 (w64 (p20 + 1)))]).bind fun p22 =>
 (HS.endr p22 l none)))))) else none)) else none))))))))
theorem J0_snd {l : Nat} (hD : DS b w D) (hH : HT b w e H) {p : HV × HS} (h : J0 D H k l y2 y3 y5 y10 S = some p) : HR b w e 28 (some l) [.code c9,.beginRound,.code c10] ⟨[Ga,j,(.ptr y2),(.ptr y3),F,(.ptr y5),N,Gh,i,a,(.ptr y10),B,M,O,K,A,C,E,I],[]⟩ S (RR p.1 p.2) := by
 unfold J0 at h
 refine qR rfl rfl (uA 6 rfl rfl (rE ?_))
 dsimp only [w0,w1,w2,w3]
 obtain ⟨p8,hp8,h⟩ := bindo h
 refine Zaaq hp8 ?_
 refine Zxo rfl (qQ rfl ?_)
 refine Zx8 (cls := [3,3,0,2,2]) (rk := [0,1,2,3,4]) rfl (by kernel_rfl) ?_
 obtain ⟨p9,hp9,p10,hp10,h⟩ := bd2 h
 refine Zx3 (r_op (dst := some 11) (ts := [2]) rfl (by intro _ _ h; cases h) (by kernel_rfl) (fun _ ho => Zxs ho sc25 (.tmp rfl) hp9 (Zx0 hp10))) rfl trivial ?_
 obtain ⟨p11,hp11,p12,hp12,h⟩ := bd2 h
 refine Zx3 (r_op (dst := some 12) (ts := [3]) rfl (by intro _ _ h; cases h) (by kernel_rfl) (fun _ ho => Zxs ho sc3 (.tmp rfl) hp11 (Zxq hp12))) rfl trivial ?_
 refine xf 13 [6] rfl (oM · rfl) ?_
 obtain ⟨p13,hp13,p14,hp14,h⟩ := bd2 h
 obtain ⟨hg15,h⟩ := gd h
 obtain ⟨p16,hp16,h⟩ := bindo h
 obtain ⟨hg17,h⟩ := gd h
 refine Zzc (Zaa3 (dst := some 14) (ts := [13]) rfl (by kernel_rfl) (.func _) (ev1 rfl) (HInv.static Y6.at_ Y6.body (Y6.snd  hp13))) rfl ⟨.inr (l_op (dst := some 12) (ts := [3]) rfl (by intro _ _ h; cases h) (by kernel_rfl) (fun _ ho => Zxs ho sc3 (.tmp rfl) hp11 (Zxq (hp14.trans (congrArg some hg15))))),.inr (l_op (dst := some 11) (ts := [2]) rfl (by intro _ _ h; cases h) (by kernel_rfl) (fun _ ho => Zxs ho sc25 (.tmp rfl) hp9 (Zx0 (hp16.trans (congrArg some hg17))))),trivial⟩ ?_
 try dsimp only [w0,w1,w2,w3]
 obtain ⟨p18,hp18,h⟩ := bindo h
 refine Zzc (Zaa3 (dst := some 15) (ts := [11,12,14]) rfl (by kernel_rfl) (.func _) (ev3 rfl rfl rfl) (HInv.static Y14.at_ Y14.body (Y14.snd hD hH hp18))) rfl ⟨.inl (by kernel_rfl),.inl (by kernel_rfl),trivial⟩ ?_
 refine Zx5 rfl ?_
 refine rE ?_
 try dsimp only [w0,w1,w2,w3]
 obtain ⟨p19,hp19,p20,hp20,p21,hp21,p22,hp22,h⟩ := bd4 h
 refine qR rfl rfl (uL 16 rfl sc3 rfl hp19 (Zxq hp20) (uC 17 rfl rfl rfl (qN rfl (Zxk (v := (.int .i64 (w64 (p20 + 1)))) · sz3 (.tmp rfl) hp21 (.tmp rfl) rfl hp22) (rE ?_))))
 dsimp only [w0,w1,w2,w3]
 refine Zxf ?_
 exact Zy6 h ⟨rfl,rfl⟩
def f (D : Dp) (H : Hd) (k : Nat) (x0 : HP) (x1 : Int) (S : HS) : Option ((Int) × HS) :=
 (letv (HS.new S (.cells 1 [[(.ptr x0)]] true)) fun p1 =>
 (letv (HS.new p1 (.cells 1 [[(.int .i64 x1)]] true)) fun p2 =>
 (letv (HS.new p2 (.cells 1 [[(.int .i64 0)]] true)) fun p3 =>
 ((p3.sets (HA.cell0 p2.next) [(.int .i64 0)]).bind fun p4 =>
 ((p4.ldP (HA.cell0 S.next)).bind fun p5 =>
 ((p4.ldI .i64 (HA.cell0 p1.next)).bind fun p6 =>
 ((Y12.f D H k p5 p6 p4).bind fun p7 =>
 ((D (Hd.set H (HS.next p7.2 + 1) fun vs T =>
 ((T.lp (HS.next p7.2 + 1)).bind fun u25 =>
 ((Zaad vs).bind fun ar23 =>
 ((dP ar23).bind fun p24 =>
 (J0 D H k (HS.next p7.2 + 1) (some (HA.cell0 S.next)) (some (HA.cell0 p1.next)) (some (HA.cell0 p2.next)) p24 T))))) p7.1 [.fn (.yield (HS.next p7.2 + 1)) [] []] (HS.new (HS.new p7.2 .defer) (.loop .ready none))).bind fun p26 =>
 ((p26.2.finish (HS.next p7.2 + 1)).bind fun p27 =>
 ((pcode p27.1).bind fun n28 =>
 (if n28 = 0 then
 ((p27.2.ldI .i64 (HA.cell0 p2.next)).bind fun p30 =>
 ((p27.2.leave (HS.next p7.2 :: [])).bind fun p31 =>
 some (p30,p31))) else
 none)))))))))))
theorem snd {x0 : HP} {x1 : Int} (hD : DS b w D) (hH : HT b w e H) {p : (Int) × HS} (h : f D H k x0 x1 S = some p) : HC b w e 28 [(.ptr x0),(.int .i64 x1)] S (RR (.int .i64 p.1) p.2) := by
 unfold f at h
 refine HCall.of_run at_.at_ body ?_
 show HR b w e 28 none [.code c0] ⟨[(.ptr x0),(.int .i64 x1),z,z,z,z,z,z,z,z,z,z,z,z,z,z,z,z,z],[]⟩ S _
 obtain ⟨p1,hp1,h⟩ := leto h
 obtain ⟨p2,hp2,h⟩ := leto h
 refine qT rfl rfl rfl (qS 2 rfl (Zyf · (.tmp rfl) (Yav _) rfl hp1) (qS 3 rfl (Zyf · (.tmp rfl) (Yav _) rfl hp2) (qS 4 rfl (Zxa · (.int _ _)) (rE ?_))))
 dsimp only [w0,w1,w2,w3]
 obtain ⟨p3,hp3,h⟩ := leto h
 obtain ⟨p4,hp4,h⟩ := bindo h
 refine qT rfl rfl rfl (qS 5 rfl (Zx9 · zi3 zr3 (by decide) rfl hp3) (qN rfl (Zxk (v := (.int .i64 0)) · sz3 (.tmp rfl) rfl (.int _ _) rfl hp4) (rE ?_)))
 dsimp only [w0,w1,w2,w3]
 obtain ⟨p5,hp5,p6,hp6,p7,hp7,h⟩ := bd3 h
 refine qQ rfl (qT rfl rfl rfl (uL 7 rfl sc25 rfl rfl (Zx0 hp5) (uL 8 rfl sc3 rfl rfl (Zxq hp6) (uQ 9 rfl (.func _) (ev2 rfl rfl) (HInv.static Y12.at_ Y12.body (Y12.snd hD hH hp7)) (rE ?_)))))
 dsimp only [w0,w1,w2,w3]
 obtain ⟨p26,hp26,p27,hp27,h⟩ := bd2 h
 obtain ⟨n28,hn28,h⟩ := bindo h
 refine Zxo rfl ?_
 refine Zaa7 (D := D) (H := H) rfl (.tmp rfl) hD hH hp26 hp27 ?_ ?_
 ·intro β1 hle hLA vs T u T' hr
  obtain ⟨u25,hu25,hr⟩ := bindo hr
  obtain ⟨ar23,har23,hr⟩ := bindo hr
  obtain ⟨p24,hp24,hr⟩ := bindo hr
  rw [Zy7 har23]
  refine Zzy hLA hu25 rfl rfl ?_
  rw [Zy3 hp24]
  simp only [HAct.params,List.set_cons_zero,List.set_cons_succ]
  exact J0_snd hD (hH.up hle) hr
 ·rcases ifc h with ⟨hc29,h⟩ | ⟨hc29,h⟩
  ·rw [Zabw hn28 hc29]
   simp only [Zyj,Zyk]
   obtain ⟨p30,hp30,h⟩ := bindo h
   refine Zxf (qT rfl rfl rfl (uL 18 rfl sc3 rfl rfl (Zxq hp30) (uA 4 rfl rfl (rE ?_))))
   dsimp only [w0,w1,w2,w3]
   obtain ⟨p31,hp31,h⟩ := bindo h
   cases h
   exact Zxl rfl at_.at_ hp31 (res1 rfl rfl) ⟨rfl,rfl⟩
  ·cases h
end Y39
namespace Y70
theorem at_ : FnAt Tryz.prog 24 Tryz.f24 := ⟨Tryz.func24,by kernel_rfl⟩
def d0 := (Tryz.f24.body).getD .skip
def r1 := kT d0
def r3 := kT (kB d0)
def r5 := kT (kW d0)
def d6 := kW (kB d0)
def r8 := kT (kA d6)
def r11 := kT (kY (kA d6))
def r16 := kT (kY d6)
def r19 := kT (kY (kY d6))
def r23 := kT (kW d6)
def c0 : Code := .seq (.region 0 r1 false) (.seq (.region 1 r3 false) (.seq (.region 2 r5 false) (.seq (.seq (.region 3 r8 false) (.cond (.tmp 13) (.seq (.region 4 r11 false) .ret) .skip)) (.seq (.seq (.region 5 r16 false) (.cond (.tmp 16) (.seq (.region 6 r19 false) .ret) .skip)) (.seq (.region 7 r23 false) .ret)))))
theorem body : Tryz.f24.body = some c0 := by kernel_rfl
def f (k : Nat) (x0 : (List UInt8)) (x1 : (List UInt8)) (S : HS) : Option ((Int) × HS) :=
 ((Y7.f k x0 S).bind fun p1 =>
 ((Y7.f k x1 p1.2).bind fun p2 =>
 (if (slt p1.1 p2.1) = true then
 some ((-1),p2.2) else
 (if (!(slt p1.1 p2.1 || decide (p1.1 = p2.1))) = true then
 some (1,p2.2) else
 some (0,p2.2)))))
theorem snd {x0 : (List UInt8)} {x1 : (List UInt8)}  {p : (Int) × HS} (h : f k x0 x1 S = some p) : HC b w e 24 [(.str x0),(.str x1)] S (RR (.int .i64 p.1) p.2) := by
 unfold f at h
 refine HCall.of_run at_.at_ body ?_
 show HR b w e 24 none [.code c0] ⟨[(.str x0),(.str x1),z,z,z,z,z,z,z,z,z,z,z,z,z,z,z],[]⟩ S _
 refine qT rfl rfl rfl (qS 4 rfl (Zxa · (.int _ _)) (rE ?_))
 dsimp only [w0,w1,w2,w3]
 obtain ⟨p1,hp1,h⟩ := bindo h
 refine qT rfl rfl rfl (uM 7 rfl rfl (uQ 8 rfl (.func _) (ev1 rfl) (HInv.static Y7.at_ Y7.body (Y7.snd  hp1)) (uA 5 rfl rfl (rE ?_))))
 dsimp only [w0,w1,w2,w3]
 obtain ⟨p2,hp2,h⟩ := bindo h
 refine qT rfl rfl rfl (uM 9 rfl rfl (uQ 10 rfl (.func _) (ev1 rfl) (HInv.static Y7.at_ Y7.body (Y7.snd  hp2)) (uA 6 rfl rfl (rE ?_))))
 dsimp only [w0,w1,w2,w3]
 refine qQ rfl (qT rfl rfl rfl (uM 11 rfl rfl (uM 12 rfl rfl (qS 13 rfl (Zzw · (.tmp rfl) (.tmp rfl) rfl) (rE ?_)))))
 dsimp only [w0,w1,w2,w3]
 rcases ifc h with ⟨hc3,h⟩ | ⟨hc3,h⟩
 ·refine Zxb rfl (.tmp rfl) hc3 (qT rfl rfl rfl (qS 4 rfl (Zxa · (.int _ _)) (rE ?_)))
  cases h
  exact Zxl rfl at_.at_ rfl (res1 rfl rfl) ⟨rfl,rfl⟩
 ·refine Zxc rfl (.tmp rfl) (bfalse hc3) (Zxd rfl (qQ rfl (qT rfl rfl rfl (uM 14 rfl rfl (uM 15 rfl rfl (qS 16 rfl (Zzw · (.tmp rfl) (.tmp rfl) rfl) (rE ?_)))))))
  dsimp only [w0,w1,w2,w3]
  rcases ifc h with ⟨hc4,h⟩ | ⟨hc4,h⟩
  ·refine Zxb rfl (.tmp rfl) hc4 (qT rfl rfl rfl (qS 4 rfl (Zxa · (.int _ _)) (rE ?_)))
   cases h
   exact Zxl rfl at_.at_ rfl (res1 rfl rfl) ⟨rfl,rfl⟩
  ·refine Zxc rfl (.tmp rfl) (bfalse hc4) (Zxd rfl (qT rfl rfl rfl (qS 4 rfl (Zxa · (.int _ _)) (rE ?_))))
   cases h
   exact Zxl rfl at_.at_ rfl (res1 rfl rfl) ⟨rfl,rfl⟩
end Y70
namespace Y0
theorem at_ : FnAt Tryz.prog 34 Tryz.f34 := ⟨Tryz.func34,by kernel_rfl⟩
def d0 := (Tryz.f34.body).getD .skip
def r1 := kT d0
def r3 := kT (kB d0)
def d5 := kY (kB d0)
def r6 := kT d5
def d9 := kX (kB d5)
def r11 := kT (kA d9)
def d17 := kX (kB d9)
def r18 := kT d17
def r21 := kT (kY d17)
def r26 := kT (kW d17)
def d27 := kW (kB d17)
def r32 := kT (kX (kX d27))
def r37 := kT (kZ (kX d27))
def r39 := kT (kB d27)
def r41 := kT (kW d27)
def r43 := kT (kW (kB d27))
def r44 := kR (kW (kW d27))
def r45 := kR (kW d9)
def r47 := kT (kW (kB d0))
def c46 : Code := .seq (.region 14 r47 false) .ret
def c45 : Code := .region 4 r45 false
def c38 : Code := .seq (.region 10 r39 false) (.seq (.region 11 r41 false) (.seq (.region 12 r43 false) (.region 13 r44 false)))
def c36 : Code := .block 3 (.region 9 r37 false)
def c33 : Code := .cond (.tmp 55) .skip (.exit 2)
def c30 : Code := .seq (.seq (.region 8 r32 true) c33) c36
def c25 : Code := .seq (.region 7 r26 false) (.seq (.block 2 (.loop c30)) c38)
def c22 : Code := .cond (.tmp 35) (.exit 1) .skip
def c9 : Code := .seq (.seq (.region 3 r11 false) (.cond (.tmp 18) .skip (.exit 0))) (.seq (.block 1 (.seq (.region 5 r18 false) (.seq (.seq (.region 6 r21 false) c22) c25))) c45)
def c0 : Code := .seq (.region 0 r1 false) (.seq (.region 1 r3 false) (.seq (.seq (.region 2 r6 false) (.block 0 (.loop c9))) c46))
theorem body : Tryz.f34.body = some c0 := by kernel_rfl
variable {y0 y9 : HP} {y1 y8 y10 : Int} {y2 y35 y55 : Bool} {y7 : Sl}
def J2 (k : Nat) (rec0 : HP → Int → Bool → Sl → Int → HS → Option ((Sl) × HS)) (y0 : HP) (y1 : Int) (y2 : Bool) (y7 : Sl) (y8 : Int) (S : HS) : Option ((Sl) × HS) :=
 rec0 y0 y1 y2 y7 (w64 (y8 + 1)) S
theorem J2_snd {rec0 : HP → Int → Bool → Sl → Int → HS → Option ((Sl) × HS)} (hrec0 : ∀ ⦃y0 : HP⦄ ⦃y1 : Int⦄ ⦃y2 : Bool⦄ ⦃y7 : Sl⦄ ⦃y8 : Int⦄ ⦃S : HS⦄ ⦃p : (Sl) × HS⦄ ⦃m F o N a G B M O K A C E I J L Q U V Z c d g r Kd Ke Kf Kg Kh Ki Kj Kk Kl Km Kn Ko Kp Kq Kr Ks Kt Ku Kv Kw Kx Ky Kz Ma Mb Mc Md Me Mf Mg Mh Mi Mj Mk Ml Mm Mn Mo Mp Mq Mr Ms Mt Mu : HV⦄,rec0 y0 y1 y2 y7 y8 S = some p → HR b w e 34 none [.inLoop c9,.inBlock 0,.code c46] ⟨[(.ptr y0),(.int .i64 y1),(.bool y2),m,F,o,N,(Sl.hv y7),(.int .i64 y8),a,G,B,M,O,K,A,C,E,I,J,L,Q,U,V,Z,c,d,g,r,Kd,Ke,Kf,Kg,Kh,Ki,Kj,Kk,Kl,Km,Kn,Ko,Kp,Kq,Kr,Ks,Kt,Ku,Kv,Kw,Kx,Ky,Kz,Ma,Mb,Mc,Md,Me,Mf,Mg,Mh,Mi,Mj,Mk,Ml,Mm,Mn,Mo,Mp,Mq,Mr,Ms,Mt,Mu],[]⟩ S (RR (Sl.hv p.1) p.2)) {p : (Sl) × HS} (h : J2 k rec0 y0 y1 y2 y7 y8 S = some p) : HR b w e 34 none [.code c45,.inLoop c9,.inBlock 0,.code c46] ⟨[(.ptr y0),(.int .i64 y1),(.bool y2),m,F,o,N,(Sl.hv y7),(.int .i64 y8),a,G,B,M,O,K,A,C,E,I,J,L,Q,U,V,Z,c,d,g,r,Kd,Ke,Kf,Kg,Kh,Ki,Kj,Kk,Kl,Km,Kn,Ko,Kp,Kq,Kr,Ks,Kt,Ku,Kv,Kw,Kx,Ky,Kz,Ma,Mb,Mc,Md,Me,Mf,Mg,Mh,Mi,Mj,Mk,Ml,Mm,Mn,Mo,Mp,Mq,Mr,Ms,Mt,Mu],[]⟩ S (RR (Sl.hv p.1) p.2) := by
 unfold J2 at h
 refine qR rfl rfl (uM 19 rfl rfl (uC 20 rfl rfl rfl (uA 8 rfl rfl (rE ?_))))
 dsimp only [w0,w1,w2,w3]
 exact hrec0 h
def J4 (k : Nat) (rec0 : HP → Int → Bool → Sl → Int → HP → Int → HS → Option ((Sl) × HS)) (rec1 : HP → Int → Bool → Sl → Int → HS → Option ((Sl) × HS)) (y0 : HP) (y1 : Int) (y2 : Bool) (y7 : Sl) (y8 : Int) (y9 : HP) (y10 : Int) (y55 : Bool) (S : HS) : Option ((Sl) × HS) :=
 (if y55 = true then
 rec0 y0 y1 y2 y7 y8 y9 (w64 (y10 - 1)) S else
 ((S.cut y7 0 y10 1).bind fun p20 =>
 ((S.rows p20 1).bind fun p21 =>
 ((S.app Sl.nil p21 1).bind fun p22 =>
 (letv (HS.lit (p22.2) [[(.ptr y9)]] 1) fun p23 =>
 ((p23.2.rows (p23.1) 1).bind fun p24 =>
 ((p23.2.app (p22.1) p24 1).bind fun p25 =>
 ((p25.2.cut y7 y10 (Sl.len y7 : Int) 1).bind fun p26 =>
 ((p25.2.rows p26 1).bind fun p27 =>
 ((p25.2.app (p25.1) p27 1).bind fun p28 =>
 J2 k rec1 y0 y1 y2 (p28.1) y8 (p28.2)))))))))))
theorem J4_snd {rec0 : HP → Int → Bool → Sl → Int → HP → Int → HS → Option ((Sl) × HS)} {rec1 : HP → Int → Bool → Sl → Int → HS → Option ((Sl) × HS)} (hrec0 : ∀ ⦃y0 : HP⦄ ⦃y1 : Int⦄ ⦃y2 : Bool⦄ ⦃y7 : Sl⦄ ⦃y8 : Int⦄ ⦃y9 : HP⦄ ⦃y10 : Int⦄ ⦃S : HS⦄ ⦃p : (Sl) × HS⦄ ⦃m F o N B M O K A C E I J L Q U V Z c d g r Kd Ke Kf Kg Kh Ki Kj Kk Kl Km Kn Ko Kp Kq Kr Ks Kt Ku Kv Kw Kx Ky Kz Ma Mb Mc Md Me Mf Mg Mh Mi Mj Mk Ml Mm Mn Mo Mp Mq Mr Ms Mt Mu : HV⦄,rec0 y0 y1 y2 y7 y8 y9 y10 S = some p → HR b w e 34 none [.inLoop c30,.inBlock 2,.code c38,.inBlock 1,.code c45,.inLoop c9,.inBlock 0,.code c46] ⟨[(.ptr y0),(.int .i64 y1),(.bool y2),m,F,o,N,(Sl.hv y7),(.int .i64 y8),(.ptr y9),(.int .i64 y10),B,M,O,K,A,C,E,I,J,L,Q,U,V,Z,c,d,g,r,Kd,Ke,Kf,Kg,Kh,Ki,Kj,Kk,Kl,Km,Kn,Ko,Kp,Kq,Kr,Ks,Kt,Ku,Kv,Kw,Kx,Ky,Kz,Ma,Mb,Mc,Md,Me,Mf,Mg,Mh,Mi,Mj,Mk,Ml,Mm,Mn,Mo,Mp,Mq,Mr,Ms,Mt,Mu],[]⟩ S (RR (Sl.hv p.1) p.2)) (hrec1 : ∀ ⦃y0 : HP⦄ ⦃y1 : Int⦄ ⦃y2 : Bool⦄ ⦃y7 : Sl⦄ ⦃y8 : Int⦄ ⦃S : HS⦄ ⦃p : (Sl) × HS⦄ ⦃m F o N a G B M O K A C E I J L Q U V Z c d g r Kd Ke Kf Kg Kh Ki Kj Kk Kl Km Kn Ko Kp Kq Kr Ks Kt Ku Kv Kw Kx Ky Kz Ma Mb Mc Md Me Mf Mg Mh Mi Mj Mk Ml Mm Mn Mo Mp Mq Mr Ms Mt Mu : HV⦄,rec1 y0 y1 y2 y7 y8 S = some p → HR b w e 34 none [.inLoop c9,.inBlock 0,.code c46] ⟨[(.ptr y0),(.int .i64 y1),(.bool y2),m,F,o,N,(Sl.hv y7),(.int .i64 y8),a,G,B,M,O,K,A,C,E,I,J,L,Q,U,V,Z,c,d,g,r,Kd,Ke,Kf,Kg,Kh,Ki,Kj,Kk,Kl,Km,Kn,Ko,Kp,Kq,Kr,Ks,Kt,Ku,Kv,Kw,Kx,Ky,Kz,Ma,Mb,Mc,Md,Me,Mf,Mg,Mh,Mi,Mj,Mk,Ml,Mm,Mn,Mo,Mp,Mq,Mr,Ms,Mt,Mu],[]⟩ S (RR (Sl.hv p.1) p.2)) {p : (Sl) × HS} (h : J4 k rec0 rec1 y0 y1 y2 y7 y8 y9 y10 y55 S = some p) : HR b w e 34 none [.code c33,.code c36,.inLoop c30,.inBlock 2,.code c38,.inBlock 1,.code c45,.inLoop c9,.inBlock 0,.code c46] ⟨[(.ptr y0),(.int .i64 y1),(.bool y2),m,F,o,N,(Sl.hv y7),(.int .i64 y8),(.ptr y9),(.int .i64 y10),B,M,O,K,A,C,E,I,J,L,Q,U,V,Z,c,d,g,r,Kd,Ke,Kf,Kg,Kh,Ki,Kj,Kk,Kl,Km,Kn,Ko,Kp,Kq,Kr,Ks,Kt,Ku,Kv,Kw,Kx,Ky,Kz,Ma,Mb,Mc,(.bool y55),Me,Mf,Mg,Mh,Mi,Mj,Mk,Ml,Mm,Mn,Mo,Mp,Mq,Mr,Ms,Mt,Mu],[]⟩ S (RR (Sl.hv p.1) p.2) := by
 unfold J4 at h
 rcases ifc h with ⟨hc19,h⟩ | ⟨hc19,h⟩
 ·refine Zxb rfl (.tmp rfl) hc19 (Zxd rfl (Zxo rfl (qR rfl rfl (uM 56 rfl rfl (uC 57 rfl rfl rfl (uA 10 rfl rfl (rE ?_)))))))
  dsimp only [w0,w1,w2,w3]
  refine Zxf ?_
  try dsimp only [w0,w1,w2,w3]
  exact hrec0 h
 ·refine Zxc rfl (.tmp rfl) (bfalse hc19) (Zyh rfl rfl (qT rfl rfl rfl (qS 11 rfl (Zxa · (.const fun _ => .slNil none)) (rE ?_))))
  dsimp only [w0,w1,w2,w3]
  obtain ⟨p20,hp20,h⟩ := bindo h
  refine qT rfl rfl rfl (uM 58 rfl rfl (uM 59 rfl rfl (uM 60 rfl rfl (qS 61 rfl (Zxn (kl := .i64) (kh := .i64) (s := y7) (l := 0) (h := y10) · tu30 si39 (.tmp rfl) (.inl ⟨rfl,rfl⟩) (.inr ⟨_,rfl,(.tmp rfl)⟩) hp20) ?_))))
  try dsimp only [w0,w1,w2,w3]
  obtain ⟨p21,hp21,p22,hp22,h⟩ := bd2 h
  refine qS 62 rfl (Zx1 (s := Sl.nil) (s1 := p20) el30 · rfl rfl ⟨_,tu30⟩ (.tmp rfl) (.tmp rfl) hp21 hp22) (uA 11 rfl rfl (rE ?_))
  dsimp only [w0,w1,w2,w3]
  obtain ⟨p23,hp23,h⟩ := leto h
  obtain ⟨p24,hp24,p25,hp25,h⟩ := bd2 h
  refine qT rfl rfl rfl (uM 63 rfl rfl (uM 64 rfl rfl (qS 65 rfl (Zxp (xs := [(.tmp 64)]) el30 · rfl rfl (by decide) (ev1 rfl) rfl rfl hp23) (qS 66 rfl (Zx1 (s := (p22.1)) (s1 := (p23.1)) el30 · rfl rfl ⟨_,tu30⟩ (.tmp rfl) (.tmp rfl) hp24 hp25) ?_))))
  try dsimp only [w0,w1,w2,w3]
  refine uA 11 rfl rfl (rE ?_)
  dsimp only [w0,w1,w2,w3]
  obtain ⟨p26,hp26,h⟩ := bindo h
  refine qR rfl rfl (uM 67 rfl rfl (uM 68 rfl rfl (uM 69 rfl rfl (qS 70 rfl (Zxn (kl := .i64) (kh := .i64) (s := y7) (l := y10) (h := (Sl.len y7 : Int)) · tu30 si39 (.tmp rfl) (.inr ⟨_,rfl,(.tmp rfl)⟩) (.inl ⟨rfl,rfl⟩) hp26) ?_))))
  try dsimp only [w0,w1,w2,w3]
  obtain ⟨p27,hp27,p28,hp28,h⟩ := bd2 h
  refine qS 71 rfl (Zx1 (s := (p25.1)) (s1 := p26) el30 · rfl rfl ⟨_,tu30⟩ (.tmp rfl) (.tmp rfl) hp27 hp28) (uA 7 rfl rfl (rE ?_))
  dsimp only [w0,w1,w2,w3]
  refine Zxf ?_
  try dsimp only [w0,w1,w2,w3]
  exact J2_snd hrec1 h
def L3 (k : Nat) (rec0 : HP → Int → Bool → Sl → Int → HS → Option ((Sl) × HS)) : Nat → HP → Int → Bool → Sl → Int → HP → Int → HS → Option ((Sl) × HS)
 | 0,_,_,_,_,_,_,_,_ => none
 | n + 1,y0,y1,y2,y7,y8,y9,y10,S =>
  (if y10 > 0 then
  ((S.idx y7 (w64 (y10 - 1)) 1).bind fun p12 =>
  ((S.ldP p12).bind fun p13 =>
  (p13.bind fun p14 =>
  ((S.ldS (HA.fld p14 0)).bind fun p15 =>
  (y9.bind fun p16 =>
  ((S.ldS (HA.fld p16 0)).bind fun p17 =>
  ((Y70.f k p15 p17 S).bind fun p18 =>
  J4 k (L3 k rec0 n) rec0 y0 y1 y2 y7 y8 y9 y10 (decide (p18.1 > 0)) p18.2))))))) else
  J4 k (L3 k rec0 n) rec0 y0 y1 y2 y7 y8 y9 y10 false S)
theorem L3_snd {rec0 : HP → Int → Bool → Sl → Int → HS → Option ((Sl) × HS)} (hrec0 : ∀ ⦃y0 : HP⦄ ⦃y1 : Int⦄ ⦃y2 : Bool⦄ ⦃y7 : Sl⦄ ⦃y8 : Int⦄ ⦃S : HS⦄ ⦃p : (Sl) × HS⦄ ⦃m F o N a G B M O K A C E I J L Q U V Z c d g r Kd Ke Kf Kg Kh Ki Kj Kk Kl Km Kn Ko Kp Kq Kr Ks Kt Ku Kv Kw Kx Ky Kz Ma Mb Mc Md Me Mf Mg Mh Mi Mj Mk Ml Mm Mn Mo Mp Mq Mr Ms Mt Mu : HV⦄,rec0 y0 y1 y2 y7 y8 S = some p → HR b w e 34 none [.inLoop c9,.inBlock 0,.code c46] ⟨[(.ptr y0),(.int .i64 y1),(.bool y2),m,F,o,N,(Sl.hv y7),(.int .i64 y8),a,G,B,M,O,K,A,C,E,I,J,L,Q,U,V,Z,c,d,g,r,Kd,Ke,Kf,Kg,Kh,Ki,Kj,Kk,Kl,Km,Kn,Ko,Kp,Kq,Kr,Ks,Kt,Ku,Kv,Kw,Kx,Ky,Kz,Ma,Mb,Mc,Md,Me,Mf,Mg,Mh,Mi,Mj,Mk,Ml,Mm,Mn,Mo,Mp,Mq,Mr,Ms,Mt,Mu],[]⟩ S (RR (Sl.hv p.1) p.2)) : ∀ {n : Nat} ⦃y0 : HP⦄ ⦃y1 : Int⦄ ⦃y2 : Bool⦄ ⦃y7 : Sl⦄ ⦃y8 : Int⦄ ⦃y9 : HP⦄ ⦃y10 : Int⦄ ⦃S : HS⦄ ⦃p : (Sl) × HS⦄ ⦃m F o N B M O K A C E I J L Q U V Z c d g r Kd Ke Kf Kg Kh Ki Kj Kk Kl Km Kn Ko Kp Kq Kr Ks Kt Ku Kv Kw Kx Ky Kz Ma Mb Mc Md Me Mf Mg Mh Mi Mj Mk Ml Mm Mn Mo Mp Mq Mr Ms Mt Mu : HV⦄,L3 k rec0 n y0 y1 y2 y7 y8 y9 y10 S = some p → HR b w e 34 none [.inLoop c30,.inBlock 2,.code c38,.inBlock 1,.code c45,.inLoop c9,.inBlock 0,.code c46] ⟨[(.ptr y0),(.int .i64 y1),(.bool y2),m,F,o,N,(Sl.hv y7),(.int .i64 y8),(.ptr y9),(.int .i64 y10),B,M,O,K,A,C,E,I,J,L,Q,U,V,Z,c,d,g,r,Kd,Ke,Kf,Kg,Kh,Ki,Kj,Kk,Kl,Km,Kn,Ko,Kp,Kq,Kr,Ks,Kt,Ku,Kv,Kw,Kx,Ky,Kz,Ma,Mb,Mc,Md,Me,Mf,Mg,Mh,Mi,Mj,Mk,Ml,Mm,Mn,Mo,Mp,Mq,Mr,Ms,Mt,Mu],[]⟩ S (RR (Sl.hv p.1) p.2) := by
 intro n
 induction n with
 | zero => intro _ _ _ _ _ _ _ _ _ _ _ _ _ _ _ _ _ _ _ _ _ _ _ _ _ _ _ _ _ _ _ _ _ _ _ _ _ _ _ _ _ _ _ _ _ _ _ _ _ _ _ _ _ _ _ _ _ _ _ _ _ _ _ _ _ _ _ _ _ _ _ _ _ _ _ h; cases h
 | succ n ih =>
  intro y0 y1 y2 y7 y8 y9 y10 S p m F o N B M O K A C E I J L Q U V Z c d g r Kd Ke Kf Kg Kh Ki Kj Kk Kl Km Kn Ko Kp Kq Kr Ks Kt Ku Kv Kw Kx Ky Kz Ma Mb Mc Md Me Mf Mg Mh Mi Mj Mk Ml Mm Mn Mo Mp Mq Mr Ms Mt Mu h
  simp only [L3] at h
  refine Zxz (qQ rfl (qQ rfl ?_))
  refine Zx8 (cls := [0,0,0,0,0,0,1,1,0,0,1,0,0,0,1,2,0,0]) (rk := [0,1,2,3,4,5,6,7,8,9,10,11,12,13,14,15,16,17]) rfl (by kernel_rfl) ?_
  refine yf 38 [10] rfl (oM · rfl) ?_
  refine yf 39 [38] rfl (oC · rfl rfl) ?_
  refine yf 40 [39] rfl (oM · rfl) ?_
  rcases ifc h with ⟨hc11,h⟩ | ⟨hc11,h⟩
  ·refine yfg 41 40 [7,40] rfl (decide_eq_true hc11) (oM · rfl) ?_
   try dsimp only [w0,w1,w2,w3]
   refine yfg 42 40 [10,40] rfl (decide_eq_true hc11) (oM · rfl) ?_
   refine yfg 43 40 [42,40] rfl (decide_eq_true hc11) (oC · rfl rfl) ?_
   obtain ⟨p12,hp12,h⟩ := bindo h
   refine yrg 44 40 [41,43,40] rfl (decide_eq_true hc11) (oX (s := y7) · tu30 sz39 rfl rfl hp12) ?_
   obtain ⟨p13,hp13,h⟩ := bindo h
   refine yrg 45 40 [44,40] rfl (decide_eq_true hc11) (oL · sc39 rfl rfl (Zx0 hp13)) ?_
   try dsimp only [w0,w1,w2,w3]
   obtain ⟨p14,hp14,h⟩ := bindo h
   refine yfg 46 40 [45,40] rfl (decide_eq_true hc11) (oN · rfl hp14) ?_
   refine yfg 47 40 [46,40] rfl (decide_eq_true hc11) (oF · Zadk (by decide) rfl rfl) ?_
   obtain ⟨p15,hp15,h⟩ := bindo h
   refine yrg 48 40 [47,40] rfl (decide_eq_true hc11) (oL · sc9 rfl rfl (Zx4 hp15)) ?_
   refine yfg 49 40 [9,40] rfl (decide_eq_true hc11) (oM · rfl) ?_
   try dsimp only [w0,w1,w2,w3]
   obtain ⟨p16,hp16,h⟩ := bindo h
   refine yfg 50 40 [49,40] rfl (decide_eq_true hc11) (oN · rfl hp16) ?_
   refine yfg 51 40 [50,40] rfl (decide_eq_true hc11) (oF · Zadk (by decide) rfl rfl) ?_
   obtain ⟨p17,hp17,h⟩ := bindo h
   refine yrg 52 40 [51,40] rfl (decide_eq_true hc11) (oL · sc9 rfl rfl (Zx4 hp17)) ?_
   obtain ⟨p18,hp18,h⟩ := bindo h
   refine x_go (Zyu (dst := some 53) (t := 40) (ts := [48,52,40]) rfl (by kernel_rfl) rfl rfl (decide_eq_true hc11) (.func _) (ev2 rfl rfl) (HInv.static Y70.at_ Y70.body (Y70.snd  hp18))) rfl ?_
   try dsimp only [w0,w1,w2,w3]
   refine yfg 54 40 [53,40] rfl (decide_eq_true hc11) (oC · rfl rfl) ?_
   refine yf 55 [40,54] rfl (Zxh · (.tmp rfl) (decide_eq_true hc11) (.tmp rfl)) ?_
   refine Zx5 rfl ?_
   refine rE ?_
   try dsimp only [w0,w1,w2,w3]
   exact J4_snd ih hrec0 h
  ·refine yfs 41 40 [7,40] rfl (decide_eq_false hc11) ?_
   try dsimp only [w0,w1,w2,w3]
   refine yfs 42 40 [10,40] rfl (decide_eq_false hc11) ?_
   refine yfs 43 40 [42,40] rfl (decide_eq_false hc11) ?_
   refine yrs 44 40 [41,43,40] rfl (decide_eq_false hc11) ?_
   refine yrs 45 40 [44,40] rfl (decide_eq_false hc11) ?_
   try dsimp only [w0,w1,w2,w3]
   refine yfs 46 40 [45,40] rfl (decide_eq_false hc11) ?_
   refine yfs 47 40 [46,40] rfl (decide_eq_false hc11) ?_
   refine yrs 48 40 [47,40] rfl (decide_eq_false hc11) ?_
   refine yfs 49 40 [9,40] rfl (decide_eq_false hc11) ?_
   try dsimp only [w0,w1,w2,w3]
   refine yfs 50 40 [49,40] rfl (decide_eq_false hc11) ?_
   refine yfs 51 40 [50,40] rfl (decide_eq_false hc11) ?_
   refine yrs 52 40 [51,40] rfl (decide_eq_false hc11) ?_
   refine yes 53 40 [48,52,40] rfl (decide_eq_false hc11) ?_
   try dsimp only [w0,w1,w2,w3]
   refine yfs 54 40 [53,40] rfl (decide_eq_false hc11) ?_
   refine yf 55 [40,54] rfl (Zxm · (.tmp rfl) (decide_eq_false hc11) (.bool _)) ?_
   refine Zx5 rfl ?_
   refine rE ?_
   try dsimp only [w0,w1,w2,w3]
   exact J4_snd ih hrec0 h
def J1 (k : Nat) (rec0 : HP → Int → Bool → Sl → Int → HS → Option ((Sl) × HS)) (y0 : HP) (y1 : Int) (y2 : Bool) (y7 : Sl) (y8 : Int) (y9 : HP) (y35 : Bool) (S : HS) : Option ((Sl) × HS) :=
 (if y35 = true then
 J2 k rec0 y0 y1 y2 y7 y8 S else
 L3 k rec0 k y0 y1 y2 y7 y8 y9 (Sl.len y7 : Int) S)
theorem J1_snd {rec0 : HP → Int → Bool → Sl → Int → HS → Option ((Sl) × HS)} (hrec0 : ∀ ⦃y0 : HP⦄ ⦃y1 : Int⦄ ⦃y2 : Bool⦄ ⦃y7 : Sl⦄ ⦃y8 : Int⦄ ⦃S : HS⦄ ⦃p : (Sl) × HS⦄ ⦃m F o N a G B M O K A C E I J L Q U V Z c d g r Kd Ke Kf Kg Kh Ki Kj Kk Kl Km Kn Ko Kp Kq Kr Ks Kt Ku Kv Kw Kx Ky Kz Ma Mb Mc Md Me Mf Mg Mh Mi Mj Mk Ml Mm Mn Mo Mp Mq Mr Ms Mt Mu : HV⦄,rec0 y0 y1 y2 y7 y8 S = some p → HR b w e 34 none [.inLoop c9,.inBlock 0,.code c46] ⟨[(.ptr y0),(.int .i64 y1),(.bool y2),m,F,o,N,(Sl.hv y7),(.int .i64 y8),a,G,B,M,O,K,A,C,E,I,J,L,Q,U,V,Z,c,d,g,r,Kd,Ke,Kf,Kg,Kh,Ki,Kj,Kk,Kl,Km,Kn,Ko,Kp,Kq,Kr,Ks,Kt,Ku,Kv,Kw,Kx,Ky,Kz,Ma,Mb,Mc,Md,Me,Mf,Mg,Mh,Mi,Mj,Mk,Ml,Mm,Mn,Mo,Mp,Mq,Mr,Ms,Mt,Mu],[]⟩ S (RR (Sl.hv p.1) p.2)) {p : (Sl) × HS} (h : J1 k rec0 y0 y1 y2 y7 y8 y9 y35 S = some p) : HR b w e 34 none [.code c22,.code c25,.inBlock 1,.code c45,.inLoop c9,.inBlock 0,.code c46] ⟨[(.ptr y0),(.int .i64 y1),(.bool y2),m,F,o,N,(Sl.hv y7),(.int .i64 y8),(.ptr y9),G,B,M,O,K,A,C,E,I,J,L,Q,U,V,Z,c,d,g,r,Kd,Ke,Kf,Kg,Kh,Ki,(.bool y35),Kk,Kl,Km,Kn,Ko,Kp,Kq,Kr,Ks,Kt,Ku,Kv,Kw,Kx,Ky,Kz,Ma,Mb,Mc,Md,Me,Mf,Mg,Mh,Mi,Mj,Mk,Ml,Mm,Mn,Mo,Mp,Mq,Mr,Ms,Mt,Mu],[]⟩ S (RR (Sl.hv p.1) p.2) := by
 unfold J1 at h
 rcases ifc h with ⟨hc10,h⟩ | ⟨hc10,h⟩
 ·refine Zxb rfl (.tmp rfl) hc10 (Zyh rfl rfl ?_)
  try dsimp only [w0,w1,w2,w3]
  exact J2_snd hrec0 h
 ·refine Zxc rfl (.tmp rfl) (bfalse hc10) (Zxd rfl (qT rfl rfl rfl (uM 36 rfl rfl (qS 37 rfl (Zxg (q := Sl.a y7) (n := Sl.len y7) (z := Sl.cap y7) · rfl tu30 (.tmp rfl)) (uA 10 rfl rfl (rE ?_))))))
  dsimp only [w0,w1,w2,w3]
  refine qQ rfl (Zxo rfl (Zye rfl ?_))
  try dsimp only [w0,w1,w2,w3]
  exact L3_snd hrec0 h
def L0 (k : Nat) : Nat → HP → Int → Bool → Sl → Int → HS → Option ((Sl) × HS)
 | 0,_,_,_,_,_,_ => none
 | n + 1,y0,y1,y2,y7,y8,S =>
  (y0.bind fun p1 =>
  ((S.ldSl (HA.fld p1 3)).bind fun p2 =>
  (if y8 < (Sl.len p2 : Int) then
  (y0.bind fun p4 =>
  ((S.ldSl (HA.fld p4 3)).bind fun p5 =>
  ((S.idx p5 y8 1).bind fun p6 =>
  ((S.ldP p6).bind fun p7 =>
  (if (!y2) = true then
  ((Y4.f k p7 y1 S).bind fun p9 =>
  J1 k (L0 k n) y0 y1 y2 y7 y8 p7 (decide (p9.1 < 0)) p9.2) else
  J1 k (L0 k n) y0 y1 y2 y7 y8 p7 false S))))) else
  some (y7,S))))
theorem L0_snd  : ∀ {n : Nat} ⦃y0 : HP⦄ ⦃y1 : Int⦄ ⦃y2 : Bool⦄ ⦃y7 : Sl⦄ ⦃y8 : Int⦄ ⦃S : HS⦄ ⦃p : (Sl) × HS⦄ ⦃m F o N a G B M O K A C E I J L Q U V Z c d g r Kd Ke Kf Kg Kh Ki Kj Kk Kl Km Kn Ko Kp Kq Kr Ks Kt Ku Kv Kw Kx Ky Kz Ma Mb Mc Md Me Mf Mg Mh Mi Mj Mk Ml Mm Mn Mo Mp Mq Mr Ms Mt Mu : HV⦄,L0 k n y0 y1 y2 y7 y8 S = some p → HR b w e 34 none [.inLoop c9,.inBlock 0,.code c46] ⟨[(.ptr y0),(.int .i64 y1),(.bool y2),m,F,o,N,(Sl.hv y7),(.int .i64 y8),a,G,B,M,O,K,A,C,E,I,J,L,Q,U,V,Z,c,d,g,r,Kd,Ke,Kf,Kg,Kh,Ki,Kj,Kk,Kl,Km,Kn,Ko,Kp,Kq,Kr,Ks,Kt,Ku,Kv,Kw,Kx,Ky,Kz,Ma,Mb,Mc,Md,Me,Mf,Mg,Mh,Mi,Mj,Mk,Ml,Mm,Mn,Mo,Mp,Mq,Mr,Ms,Mt,Mu],[]⟩ S (RR (Sl.hv p.1) p.2) := by
 intro n
 induction n with
 | zero => intro _ _ _ _ _ _ _ _ _ _ _ _ _ _ _ _ _ _ _ _ _ _ _ _ _ _ _ _ _ _ _ _ _ _ _ _ _ _ _ _ _ _ _ _ _ _ _ _ _ _ _ _ _ _ _ _ _ _ _ _ _ _ _ _ _ _ _ _ _ _ _ _ _ _ _ h; cases h
 | succ n ih =>
  intro y0 y1 y2 y7 y8 S p m F o N a G B M O K A C E I J L Q U V Z c d g r Kd Ke Kf Kg Kh Ki Kj Kk Kl Km Kn Ko Kp Kq Kr Ks Kt Ku Kv Kw Kx Ky Kz Ma Mb Mc Md Me Mf Mg Mh Mi Mj Mk Ml Mm Mn Mo Mp Mq Mr Ms Mt Mu h
  simp only [L0] at h
  obtain ⟨p1,hp1,h⟩ := bindo h
  refine Zxz (qQ rfl (qT rfl rfl rfl (uM 12 rfl rfl (uM 13 rfl rfl (uN 14 rfl rfl hp1 (uF 15 rfl Zz7 (by decide) rfl rfl ?_))))))
  try dsimp only [w0,w1,w2,w3]
  obtain ⟨p2,hp2,h⟩ := bindo h
  refine uL 16 rfl sc30 rfl rfl (Zxj hp2) (qS 17 rfl (Zxg (q := Sl.a p2) (n := Sl.len p2) (z := Sl.cap p2) · rfl tu30 (.tmp rfl)) (uB 18 rfl rfl rfl rfl (rE ?_)))
  dsimp only [w0,w1,w2,w3]
  rcases ifc h with ⟨hc3,h⟩ | ⟨hc3,h⟩
  ·obtain ⟨p4,hp4,p5,hp5,h⟩ := bd2 h
   refine Zxb rfl (.tmp rfl) (decide_eq_true hc3) (Zxd rfl (qQ rfl (Zxo rfl (qT rfl rfl rfl (uM 21 rfl rfl (uN 22 rfl rfl hp4 (uF 23 rfl Zz7 (by decide) rfl rfl (uL 24 rfl sc30 rfl rfl (Zxj hp5) ?_))))))))
   try dsimp only [w0,w1,w2,w3]
   obtain ⟨p6,hp6,p7,hp7,h⟩ := bd2 h
   refine uM 25 rfl rfl (qS 26 rfl (oX (s := p5) · tu30 sz39 rfl rfl hp6) (uL 27 rfl sc39 rfl rfl (Zx0 hp7) (uA 9 rfl rfl (rE ?_))))
   dsimp only [w0,w1,w2,w3]
   refine qQ rfl (qT rfl rfl rfl (uM 28 rfl rfl (qS 29 rfl (Zys · (.tmp rfl)) (uM 30 rfl rfl ?_))))
   rcases ifc h with ⟨hc8,h⟩ | ⟨hc8,h⟩
   ·refine qG 30 31 rfl hc8 (oM · rfl) ?_
    try dsimp only [w0,w1,w2,w3]
    obtain ⟨p9,hp9,h⟩ := bindo h
    refine qG 30 32 rfl hc8 (oM · rfl) (Zyp (t := 30) (dst := some 33) rfl rfl rfl hc8 (.func _) (ev2 rfl rfl) (HInv.static Y4.at_ Y4.body (Y4.snd  hp9)) ?_)
    rintro _ _ ⟨rfl,rfl⟩
    refine qG 30 34 rfl hc8 (oC · rfl rfl) (qS 35 rfl (Zxh · (.tmp rfl) hc8 (.tmp rfl)) (rE ?_))
    dsimp only [w0,w1,w2,w3]
    exact J1_snd ih h
   ·refine Zxi (dst := some 31) (t := 30) rfl rfl rfl (bfalse hc8) ?_
    try dsimp only [w0,w1,w2,w3]
    refine Zxi (dst := some 32) (t := 30) rfl rfl rfl (bfalse hc8) (Zxi (dst := some 33) (t := 30) rfl rfl rfl (bfalse hc8) (Zxi (dst := some 34) (t := 30) rfl rfl rfl (bfalse hc8) (qS 35 rfl (Zxm · (.tmp rfl) (bfalse hc8) (.bool _)) (rE ?_))))
    dsimp only [w0,w1,w2,w3]
    exact J1_snd ih h
  ·refine Zxc rfl (.tmp rfl) (decide_eq_false hc3) (Zyh rfl rfl (qT rfl rfl rfl (uM 72 rfl rfl (uA 6 rfl rfl (rE ?_)))))
   cases h
   exact Zxl rfl at_.at_ rfl (res1 rfl rfl) ⟨rfl,rfl⟩
def f (k : Nat) (x0 : HP) (x1 : Int) (x2 : Bool) (S : HS) : Option ((Sl) × HS) :=
 L0 k k x0 x1 x2 Sl.nil 0 S
theorem snd {x0 : HP} {x1 : Int} {x2 : Bool}  {p : (Sl) × HS} (h : f k x0 x1 x2 S = some p) : HC b w e 34 [(.ptr x0),(.int .i64 x1),(.bool x2)] S (RR (Sl.hv p.1) p.2) := by
 unfold f at h
 refine HCall.of_run at_.at_ body ?_
 show HR b w e 34 none [.code c0] ⟨[(.ptr x0),(.int .i64 x1),(.bool x2),z,z,z,z,z,z,z,z,z,z,z,z,z,z,z,z,z,z,z,z,z,z,z,z,z,z,z,z,z,z,z,z,z,z,z,z,z,z,z,z,z,z,z,z,z,z,z,z,z,z,z,z,z,z,z,z,z,z,z,z,z,z,z,z,z,z,z,z,z,z],[]⟩ S _
 refine qT rfl rfl rfl (qS 6 rfl (Zxa · (.const fun _ => .slNil none)) (rE ?_))
 dsimp only [w0,w1,w2,w3]
 refine qT rfl rfl rfl (qS 7 rfl (Zxa · (.const fun _ => .slNil none)) (rE ?_))
 dsimp only [w0,w1,w2,w3]
 refine qQ rfl (qT rfl rfl rfl (qS 8 rfl (Zxa · (.int _ _)) (rE ?_)))
 dsimp only [w0,w1,w2,w3]
 refine Zxo rfl (Zye rfl ?_)
 try dsimp only [w0,w1,w2,w3]
 exact L0_snd  h
end Y0
namespace Y46
theorem at_ : FnAt Tryz.prog 29 Tryz.f29 := ⟨Tryz.func29,by kernel_rfl⟩
def d0 := (Tryz.f29.body).getD .skip
def r1 := kT d0
def r3 := kT (kB d0)
def d5 := kY (kB d0)
def r6 := kT d5
def r11 := kT (kX (kY d5))
def r17 := kT (kY (kX (kB d5)))
def r18 := kR (kW (kX (kB d5)))
def r20 := kT (kW (kB d0))
def c19 : Code := .seq (.region 6 r20 false) .ret
def c9 : Code := .seq (.seq (.region 3 r11 false) (.cond (.tmp 13) .skip (.exit 0))) (.seq (.block 1 (.region 5 r17 false)) (.region 4 r18 false))
def c0 : Code := .seq (.region 0 r1 false) (.seq (.region 1 r3 false) (.seq (.seq (.region 2 r6 false) (.block 0 (.loop c9))) c19))
theorem body : Tryz.f29.body = some c0 := by kernel_rfl
def L0 (k : Nat) : Nat → HP → Int → Sl → Int → HS → Option ((Int) × HS)
 | 0,_,_,_,_,_ => none
 | n + 1,y0,y1,y5,y6,S =>
  (if y6 < (Sl.len y5 : Int) then
  ((S.idx y5 y6 1).bind fun p3 =>
  ((S.ldP p3).bind fun p4 =>
  (p4.bind fun p5 =>
  ((S.ldS (HA.fld p5 0)).bind fun p6 =>
  ((Y5.f k y0 y1 p6 S).bind fun p7 =>
  (L0 k n) y0 y1 y5 (w64 (y6 + 1)) p7.2))))) else
  some ((Sl.len y5 : Int),S))
theorem L0_snd  : ∀ {n : Nat} ⦃y0 : HP⦄ ⦃y1 : Int⦄ ⦃y5 : Sl⦄ ⦃y6 : Int⦄ ⦃S : HS⦄ ⦃p : (Int) × HS⦄ ⦃q m F Gh i a G B M O K A C E I J L Q U V Z c d g : HV⦄,L0 k n y0 y1 y5 y6 S = some p → HR b w e 29 none [.inLoop c9,.inBlock 0,.code c19] ⟨[(.ptr y0),(.int .i64 y1),q,m,F,(Sl.hv y5),(.int .i64 y6),Gh,i,a,G,B,M,O,K,A,C,E,I,J,L,Q,U,V,Z,c,d,g],[]⟩ S (RR (.int .i64 p.1) p.2) := by
 intro n
 induction n with
 | zero => intro _ _ _ _ _ _ _ _ _ _ _ _ _ _ _ _ _ _ _ _ _ _ _ _ _ _ _ _ _ _ h; cases h
 | succ n ih =>
  intro y0 y1 y5 y6 S p q m F Gh i a G B M O K A C E I J L Q U V Z c d g h
  simp only [L0] at h
  refine Zxz (qQ rfl (qT rfl rfl rfl (uM 10 rfl rfl (uM 11 rfl rfl (qS 12 rfl (Zxg (q := Sl.a y5) (n := Sl.len y5) (z := Sl.cap y5) · rfl tu30 (.tmp rfl)) (uB 13 rfl rfl rfl rfl (rE ?_)))))))
  dsimp only [w0,w1,w2,w3]
  rcases ifc h with ⟨hc2,h⟩ | ⟨hc2,h⟩
  ·refine Zxb rfl (.tmp rfl) (decide_eq_true hc2) (Zxd rfl (qQ rfl (Zxo rfl (qR rfl rfl (uM 16 rfl rfl (uM 17 rfl rfl (uM 18 rfl rfl (uM 19 rfl rfl ?_))))))))
   try dsimp only [w0,w1,w2,w3]
   obtain ⟨p3,hp3,p4,hp4,p5,hp5,h⟩ := bd3 h
   refine qS 20 rfl (oX (s := y5) · tu30 sz39 rfl rfl hp3) (uL 21 rfl sc39 rfl rfl (Zx0 hp4) (uN 22 rfl rfl hp5 (uF 23 rfl Zadk (by decide) rfl rfl ?_)))
   try dsimp only [w0,w1,w2,w3]
   obtain ⟨p6,hp6,p7,hp7,h⟩ := bd2 h
   refine uL 24 rfl sc9 rfl rfl (Zx4 hp6) (uQ 25 rfl (.func _) (ev3 rfl rfl rfl) (HInv.static Y5.at_ Y5.body (Y5.snd  hp7)) (rE ?_))
   dsimp only [w0,w1,w2,w3]
   refine Zxf (qR rfl rfl (uM 14 rfl rfl (uC 15 rfl rfl rfl (uA 6 rfl rfl (rE ?_)))))
   dsimp only [w0,w1,w2,w3]
   exact ih h
  ·refine Zxc rfl (.tmp rfl) (decide_eq_false hc2) (Zyh rfl rfl (qT rfl rfl rfl (uM 26 rfl rfl (qS 27 rfl (Zxg (q := Sl.a y5) (n := Sl.len y5) (z := Sl.cap y5) · rfl tu30 (.tmp rfl)) (uA 4 rfl rfl (rE ?_))))))
   cases h
   exact Zxl rfl at_.at_ rfl (res1 rfl rfl) ⟨rfl,rfl⟩
def f (k : Nat) (x0 : HP) (x1 : Int) (S : HS) : Option ((Int) × HS) :=
 ((Y0.f k x0 x1 false S).bind fun p1 =>
 L0 k k x0 x1 p1.1 0 p1.2)
theorem snd {x0 : HP} {x1 : Int}  {p : (Int) × HS} (h : f k x0 x1 S = some p) : HC b w e 29 [(.ptr x0),(.int .i64 x1)] S (RR (.int .i64 p.1) p.2) := by
 unfold f at h
 refine HCall.of_run at_.at_ body ?_
 show HR b w e 29 none [.code c0] ⟨[(.ptr x0),(.int .i64 x1),z,z,z,z,z,z,z,z,z,z,z,z,z,z,z,z,z,z,z,z,z,z,z,z,z,z],[]⟩ S _
 refine qT rfl rfl rfl (qS 4 rfl (Zxa · (.int _ _)) (rE ?_))
 dsimp only [w0,w1,w2,w3]
 obtain ⟨p1,hp1,h⟩ := bindo h
 refine qT rfl rfl rfl (uM 7 rfl rfl (uM 8 rfl rfl (uQ 9 rfl (.func _) (.cons (.tmp rfl) (.cons (.tmp rfl) (.cons (.bool _) Evs.nil))) (HInv.static Y0.at_ Y0.body (Y0.snd  hp1)) (uA 5 rfl rfl (rE ?_)))))
 dsimp only [w0,w1,w2,w3]
 refine qQ rfl (qT rfl rfl rfl (qS 6 rfl (Zxa · (.int _ _)) (rE ?_)))
 dsimp only [w0,w1,w2,w3]
 refine Zxo rfl (Zye rfl ?_)
 try dsimp only [w0,w1,w2,w3]
 exact L0_snd  h
end Y46
end
end Go.Proofs.YtbmfomkfmpppiaaGreat.X
