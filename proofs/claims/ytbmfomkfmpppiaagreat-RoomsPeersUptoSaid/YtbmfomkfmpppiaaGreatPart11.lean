/- Functions of the program, each as a Lean function over the layer HL: a call answers what the Lean function answers, where it answers. The laws' own functions; awake, which has no argument, is run by the kernel once, in an empty memory: that is its contract in every memory. Sets, what is common to all. Sets of int, plain. Sets of string, plain. Sets of int, what is told, plain. Sets of string, what is told, plain. Maps of sets, keys of int, things of string, plain. Maps of sets, keys of string, things of int, plain. The layer pair: the relation, plain. Folded texts, plain. The layer rooms: names compared; lists in order, plain. The layer rooms: the book of rooms, plain. The layer rooms: a room's members: searched, plain. The layer rooms: a room, plain. The layer rooms: all rooms, what is held, plain. -/
import Derived.Test.YtbmfomkfmpppiaaGreatProg
import Derived.Test.YtbmfomkfmpppiaaGreatPart10
namespace Go.Proofs.YtbmfomkfmpppiaaGreat.X
open Go.Proofs.YtbmfomkfmpppiaaGreat.HL
set_option linter.unusedVariables false
set_option linter.unusedSimpArgs false
set_option maxRecDepth 20000
set_option maxHeartbeats 4000000
noncomputable section
variable {b : Nat} {w : World} {e : Bt}
variable {S : HS} {D : Dp} {H : Hd} {k : Nat} {Ga Gb j m E Gf d Gh g L G B N O K A C F I J M Q U V Z a c i o q r Kf Kg Kh Ki Kj Kk Kl Km Kn Ko Kp Kq Kr Ks Kt Ku Kv Kw Kx Ky Kz Ma Mb Mc Md Me Mf Mg Mh Mi Mj Mk Ml Mm Mn Mo Mp Mq Mr Ms Mt Mu Mv Mw Mx My Mz Na Nb Nc Nd Ne Nf Ng Nh Ni Nj Nk Nl Nm Nn No Np Nq Nr Ns Nt Nu Nv Nw Nx Ny Nz Qa Qb Qc Qd Qe Qf Qg Qh Qi Qj Qk Ql Qm Qn Qo Qp Qq Qr Qs Qt Qu Qv Qw Qx Qy Qz Ua Ub : HV}
namespace Y9
theorem at_ : FnAt Tryz.prog 13 Tryz.f13 := ⟨Tryz.func13,by kernel_rfl⟩
def d0 := (Tryz.f13.body).getD .skip
def r1 := kT d0
def r3 := kT (kB d0)
def r6 := kT (kY (kB d0))
def r9 := kT (kY (kY (kB d0)))
def d12 := kW (kB d0)
def r14 := kT (kA d12)
def r17 := kT (kY (kA d12))
def r22 := kT (kY d12)
def d23 := kZ (kB d12)
def r25 := kT (kA d23)
def r27 := kT (kZ d23)
def r28 := kR (kW (kA d23))
def r29 := kR (kB d23)
def r31 := kT (kW d12)
def c30 : Code := .seq (.region 11 r31 false) .ret
def c20 : Code := .seq (.seq (.region 6 r22 false) (.cond (.tmp 47) (.seq (.region 7 r25 false) (.seq (.region 8 r27 false) (.region 9 r28 false))) (.region 10 r29 false))) c30
def c15 : Code := .cond (.tmp 45) (.seq (.region 5 r17 false) .ret) .skip
def c12 : Code := .seq (.seq (.region 4 r14 true) c15) c20
def c7 : Code := .cond (.tmp 19) (.seq (.region 3 r9 false) .ret) .skip
def c0 : Code := .seq (.region 0 r1 false) (.seq (.region 1 r3 false) (.seq (.seq (.region 2 r6 false) c7) c12))
theorem body : Tryz.f13.body = some c0 := by kernel_rfl
variable {y0 y8 : HP} {y1 : Int} {y2 : (List UInt8)} {y19 y45 : Bool}
def J2 (k : Nat) (y8 : HP) (S : HS) : Option ((HP × Int) × HS) :=
 some ((y8,0),S)
theorem J2_snd  {p : (HP × Int) × HS} (h : J2 k y8 S = some p) : HR b w e 13 none [.code c30] ⟨[Ga,Gb,j,m,E,Gf,d,Gh,(.ptr y8),L,G,B,N,O,K,A,C,F,I,J,M,Q,U,V,Z,a,c,i,o,q,r,Kf,Kg,Kh,Ki,Kj,Kk,Kl,Km,Kn,Ko,Kp,Kq,Kr,Ks,Kt,Ku,Kv,Kw,Kx,Ky,Kz,Ma,Mb,Mc,Md,Me,Mf,Mg,Mh,Mi,Mj,Mk,Ml,Mm,Mn,Mo,Mp,Mq,Mr,Ms,Mt,Mu],[]⟩ S (RR (.tup [(.ptr p.1.1),(.int .i64 p.1.2)]) p.2) := by
 unfold J2 at h
 refine qT rfl rfl rfl (uM 72 rfl rfl (uA 6 rfl rfl (qS 7 rfl (Zxa · (.int _ _)) (rE ?_))))
 cases h
 exact Zxk rfl at_.at_ rfl (res2 rfl rfl rfl) ⟨rfl,rfl⟩
def J1 (k : Nat) (y0 : HP) (y1 : Int) (y2 : (List UInt8)) (y8 : HP) (y45 : Bool) (S : HS) : Option ((HP × Int) × HS) :=
 (if y45 = true then
 some ((none,405),S) else
 (if (Option.isNone y8) = true then
 (y0.bind fun p13 =>
 ((S.ldI .i64 (HA.fld p13 2)).bind fun p14 =>
 ((Y107.f y2 p14 S).bind fun p15 =>
 ((Y41.f k p15.1 y1 true p15.2).bind fun p16 =>
 (letv (HS.lit p16.2 [] 1) fun p17 =>
 (y0.bind fun p18 =>
 ((p17.2.ldSl (HA.fld p18 3)).bind fun p19 =>
 ((p17.2.rows p19 1).bind fun p20 =>
 ((p17.2.app (p17.1) p20 1).bind fun p21 =>
 (letv (HS.lit (p21.2) [[(.ptr p15.1)]] 1) fun p22 =>
 ((p22.2.rows (p22.1) 1).bind fun p23 =>
 ((p22.2.app (p21.1) p23 1).bind fun p24 =>
 (y0.bind fun p25 =>
 ((p24.2.sets (HA.fld p25 3) [(Sl.hv (p24.1))]).bind fun p26 =>
 J2 k p15.1 p26)))))))))))))) else
 ((Y41.f k y8 y1 false S).bind fun p27 =>
 J2 k y8 p27.2)))
theorem J1_snd  {p : (HP × Int) × HS} (h : J1 k y0 y1 y2 y8 y45 S = some p) : HR b w e 13 none [.code c15,.code c20] ⟨[(.ptr y0),(.int .i64 y1),(.str y2),m,E,Gf,d,Gh,(.ptr y8),L,G,B,N,O,K,A,C,F,I,J,M,Q,U,V,Z,a,c,i,o,q,r,Kf,Kg,Kh,Ki,Kj,Kk,Kl,Km,Kn,Ko,Kp,Kq,Kr,Ks,(.bool y45),Ku,Kv,Kw,Kx,Ky,Kz,Ma,Mb,Mc,Md,Me,Mf,Mg,Mh,Mi,Mj,Mk,Ml,Mm,Mn,Mo,Mp,Mq,Mr,Ms,Mt,Mu],[]⟩ S (RR (.tup [(.ptr p.1.1),(.int .i64 p.1.2)]) p.2) := by
 unfold J1 at h
 rcases ifc h with ⟨hc11,h⟩ | ⟨hc11,h⟩
 ·refine Zxb rfl (.tmp rfl) hc11 (qT rfl rfl rfl (qS 6 rfl (Zxa · (.const fun _ => .ptrNil)) (qS 7 rfl (Zxa · (.int _ _)) (rE ?_))))
  cases h
  exact Zxk rfl at_.at_ rfl (res2 rfl rfl rfl) ⟨rfl,rfl⟩
 ·refine Zxc rfl (.tmp rfl) (bfalse hc11) (Zxe rfl (qQ rfl (qT rfl rfl rfl (uM 46 rfl rfl (qS 47 rfl (Zxx · tu39 (.tmp rfl) (.inl ⟨rfl,rfl⟩)) (rE ?_))))))
  dsimp only [w0,w1,w2,w3]
  rcases ifc h with ⟨hc12,h⟩ | ⟨hc12,h⟩
  ·obtain ⟨p13,hp13,h⟩ := bindo h
   refine Zxb rfl (.tmp rfl) hc12 (qT rfl rfl rfl (uM 48 rfl rfl (uM 49 rfl rfl (uN 50 rfl rfl hp13 (uF 51 rfl fi32_2 (by decide) rfl rfl ?_)))))
   try dsimp only [w0,w1,w2,w3]
   obtain ⟨p14,hp14,p15,hp15,h⟩ := bd2 h
   refine uL 52 rfl sc3 rfl rfl (Zxt hp14) (uQ 53 rfl (.func _) (ev2 rfl rfl) (HInv.static Y107.at_ Y107.body (Y107.snd  hp15)) (uA 8 rfl rfl (rE ?_)))
   dsimp only [w0,w1,w2,w3]
   obtain ⟨p16,hp16,h⟩ := bindo h
   refine qT rfl rfl rfl (uM 54 rfl rfl (uM 55 rfl rfl (uQ 56 rfl (.func _) (.cons (.tmp rfl) (.cons (.tmp rfl) (.cons (.bool _) Evs.nil))) (HInv.static Y41.at_ Y41.body (Y41.snd  hp16)) (rE ?_))))
   dsimp only [w0,w1,w2,w3]
   obtain ⟨p17,hp17,h⟩ := leto h
   obtain ⟨p18,hp18,h⟩ := bindo h
   refine qR rfl rfl (uM 57 rfl rfl (qS 58 rfl (Zxi (xs := []) el30 · rfl rfl (by decide) Evs.nil rfl rfl hp17) (uM 59 rfl rfl (uN 60 rfl rfl hp18 ?_))))
   try dsimp only [w0,w1,w2,w3]
   obtain ⟨p19,hp19,p20,hp20,p21,hp21,h⟩ := bd3 h
   refine uF 61 rfl Zzd (by decide) rfl rfl (uL 62 rfl sc30 rfl rfl (Zxl hp19) (qS 63 rfl (Zx0 (s := (p17.1)) (s1 := p19) el30 · rfl rfl ⟨_,tu30⟩ (.tmp rfl) (.tmp rfl) hp20 hp21) (uM 64 rfl rfl ?_)))
   try dsimp only [w0,w1,w2,w3]
   obtain ⟨p22,hp22,h⟩ := leto h
   obtain ⟨p23,hp23,p24,hp24,p25,hp25,h⟩ := bd3 h
   refine qS 65 rfl (Zxi (xs := [(.tmp 64)]) el30 · rfl rfl (by decide) (ev1 rfl) rfl rfl hp22) (qS 66 rfl (Zx0 (s := (p21.1)) (s1 := (p22.1)) el30 · rfl rfl ⟨_,tu30⟩ (.tmp rfl) (.tmp rfl) hp23 hp24) (uN 67 rfl rfl hp25 (uF 68 rfl Zzd (by decide) rfl rfl ?_)))
   try dsimp only [w0,w1,w2,w3]
   obtain ⟨p26,hp26,h⟩ := bindo h
   refine qN rfl (Zxq (v := (Sl.hv (p24.1))) · sz30 (.tmp rfl) rfl (.tmp rfl) rfl hp26) (rE ?_)
   try dsimp only [w0,w1,w2,w3]
   exact J2_snd  h
  ·obtain ⟨p27,hp27,h⟩ := bindo h
   refine Zxc rfl (.tmp rfl) (bfalse hc12) (qR rfl rfl (uM 69 rfl rfl (uM 70 rfl rfl (uQ 71 rfl (.func _) (.cons (.tmp rfl) (.cons (.tmp rfl) (.cons (.bool _) Evs.nil))) (HInv.static Y41.at_ Y41.body (Y41.snd  hp27)) (rE ?_)))))
   dsimp only [w0,w1,w2,w3]
   exact J2_snd  h
def J0 (k : Nat) (y0 : HP) (y1 : Int) (y2 : (List UInt8)) (y8 : HP) (y19 : Bool) (S : HS) : Option ((HP × Int) × HS) :=
 (if y19 = true then
 some ((y8,0),S) else
 ((Y5.f k y0 y1 false S).bind fun p5 =>
 (y0.bind fun p6 =>
 ((p5.2.ldI .i64 (HA.fld p6 1)).bind fun p7 =>
 ((S.ldI .i64 (HA.fld p6 1)).bind fun p8 =>
 (if p8 = p7 then
 (if (Sl.len p5.1 : Int) ≥ p7 then
 J1 k y0 y1 y2 y8 true p5.2 else
 (if (Option.isNone y8) = true then
 (y0.bind fun p29 =>
 ((p5.2.ldSl (HA.fld p29 3)).bind fun p30 =>
 (y0.bind fun p31 =>
 ((p5.2.ldI .i64 (HA.fld p31 0)).bind fun p32 =>
 J1 k y0 y1 y2 y8 (decide ((Sl.len p30 : Int) ≥ p32)) p5.2)))) else
 J1 k y0 y1 y2 y8 false p5.2)) else none))))))
theorem J0_snd  {p : (HP × Int) × HS} (h : J0 k y0 y1 y2 y8 y19 S = some p) : HR b w e 13 none [.code c7,.code c12] ⟨[(.ptr y0),(.int .i64 y1),(.str y2),m,E,Gf,d,Gh,(.ptr y8),L,G,B,N,O,K,A,C,F,I,(.bool y19),M,Q,U,V,Z,a,c,i,o,q,r,Kf,Kg,Kh,Ki,Kj,Kk,Kl,Km,Kn,Ko,Kp,Kq,Kr,Ks,Kt,Ku,Kv,Kw,Kx,Ky,Kz,Ma,Mb,Mc,Md,Me,Mf,Mg,Mh,Mi,Mj,Mk,Ml,Mm,Mn,Mo,Mp,Mq,Mr,Ms,Mt,Mu],[]⟩ S (RR (.tup [(.ptr p.1.1),(.int .i64 p.1.2)]) p.2) := by
 unfold J0 at h
 rcases ifc h with ⟨hc4,h⟩ | ⟨hc4,h⟩
 ·refine Zxb rfl (.tmp rfl) hc4 (qT rfl rfl rfl (uM 20 rfl rfl (uA 6 rfl rfl (qS 7 rfl (Zxa · (.int _ _)) (rE ?_)))))
  cases h
  exact Zxk rfl at_.at_ rfl (res2 rfl rfl rfl) ⟨rfl,rfl⟩
 ·refine Zxc rfl (.tmp rfl) (bfalse hc4) (Zxe rfl (qQ rfl (qQ rfl ?_)))
  refine Zx7 (cls := [0,0,2,0,0,0,0,3,0,0,0,0,0,0,0,0,1,0,0,0,0,1,0,0,0]) (rk := [0,1,2,3,4,5,6,7,8,9,10,11,12,13,14,15,16,17,18,19,20,21,22,23,24]) rfl (by kernel_rfl) ?_
  refine xf 21 [0] rfl (oM · rfl) ?_
  refine xf 22 [1] rfl (oM · rfl) ?_
  obtain ⟨p5,hp5,h⟩ := bindo h
  refine Zaco (Zabn (dst := some 23) (ts := [21,22]) rfl (by kernel_rfl) (.func _) (.cons (.tmp rfl) (.cons (.tmp rfl) (.cons (.bool _) Evs.nil))) (HInv.static Y5.at_ Y5.body (Y5.snd  hp5))) rfl trivial ?_
  refine xf 24 [23] rfl (Zxh (q := Sl.a p5.1) (n := Sl.len p5.1) (z := Sl.cap p5.1) · rfl tu30 (.tmp rfl)) ?_
  try dsimp only [w0,w1,w2,w3]
  refine xf 25 [0] rfl (oM · rfl) ?_
  obtain ⟨p6,hp6,h⟩ := bindo h
  refine xf 26 [25] rfl (oN · rfl hp6) ?_
  refine xf 27 [26] rfl (oF · fi32_1 (by decide) rfl rfl) ?_
  obtain ⟨p7,hp7,p8,hp8,h⟩ := bd2 h
  obtain ⟨hg9,h⟩ := gd h
  refine Zaat (r_op (dst := some 28) (ts := [27]) rfl (by intro _ _ h; cases h) (by kernel_rfl) (fun _ ho => Zyd ho sc3 (.tmp rfl) rfl (Zxt hp7))) rfl ⟨.inr (l_op (dst := some 28) (ts := [27]) rfl (by intro _ _ h; cases h) (by kernel_rfl) (fun _ ho => Zyd ho sc3 (.tmp rfl) rfl (Zxt (hp8.trans (congrArg some hg9))))),trivial⟩ ?_
  try dsimp only [w0,w1,w2,w3]
  refine xf 29 [24,28] rfl (oB · rfl rfl rfl) ?_
  refine xf 30 [29] rfl (oM · rfl) ?_
  rcases ifc h with ⟨hc10,h⟩ | ⟨hc10,h⟩
  ·refine xfs 31 30 [8,30] rfl (decide_eq_true hc10) ?_
   refine xfs 32 30 [31,30] rfl (decide_eq_true hc10) ?_
   try dsimp only [w0,w1,w2,w3]
   refine xfs 33 30 [32,30] rfl (decide_eq_true hc10) ?_
   refine Zaaq (Zy6 (dst := some 34) (t := 33) (ts := [0,33]) rfl (by kernel_rfl) rfl rfl) rfl (by decide) (by decide) ?_
   refine Zaaq (Zy6 (dst := some 35) (t := 33) (ts := [34,33]) rfl (by kernel_rfl) rfl rfl) rfl (by decide) (by decide) ?_
   refine Zaaq (Zy6 (dst := some 36) (t := 33) (ts := [35,33]) rfl (by kernel_rfl) rfl rfl) rfl (by decide) (by decide) ?_
   try dsimp only [w0,w1,w2,w3]
   refine Zaaq (Zzr (dst := some 37) (t := 33) (ts := [36,33]) rfl (by kernel_rfl) rfl rfl) rfl (by decide) (by decide) ?_
   refine Zaaq (Zy6 (dst := some 38) (t := 33) (ts := [37,33]) rfl (by kernel_rfl) rfl rfl) rfl (by decide) (by decide) ?_
   refine Zaaq (Zy6 (dst := some 39) (t := 33) (ts := [0,33]) rfl (by kernel_rfl) rfl rfl) rfl (by decide) (by decide) ?_
   refine Zaaq (Zy6 (dst := some 40) (t := 33) (ts := [39,33]) rfl (by kernel_rfl) rfl rfl) rfl (by decide) (by decide) ?_
   try dsimp only [w0,w1,w2,w3]
   refine Zaaq (Zy6 (dst := some 41) (t := 33) (ts := [40,33]) rfl (by kernel_rfl) rfl rfl) rfl (by decide) (by decide) ?_
   refine Zaaq (Zzr (dst := some 42) (t := 33) (ts := [41,33]) rfl (by kernel_rfl) rfl rfl) rfl (by decide) (by decide) ?_
   refine Zaaq (Zy6 (dst := some 43) (t := 33) (ts := [38,42,33]) rfl (by kernel_rfl) rfl rfl) rfl (by decide) (by decide) ?_
   refine xfs 44 30 [33,43,30] rfl (decide_eq_true hc10) ?_
   try dsimp only [w0,w1,w2,w3]
   refine xf 45 [30,44] rfl (Zxp · (.tmp rfl) (decide_eq_true hc10) (.bool _)) ?_
   refine Zyb rfl ?_
   refine rE ?_
   try dsimp only [w0,w1,w2,w3]
   exact J1_snd  h
  ·refine xfg 31 30 [8,30] rfl (decide_eq_false hc10) (oM · rfl) ?_
   refine xfg 32 30 [31,30] rfl (decide_eq_false hc10) (Zxx · tu39 (.tmp rfl) (.inl ⟨rfl,rfl⟩)) ?_
   try dsimp only [w0,w1,w2,w3]
   refine xfg 33 30 [32,30] rfl (decide_eq_false hc10) (oM · rfl) ?_
   rcases ifc h with ⟨hc28,h⟩ | ⟨hc28,h⟩
   ·refine xfg 34 33 [0,33] rfl hc28 (oM · rfl) ?_
    obtain ⟨p29,hp29,h⟩ := bindo h
    refine xfg 35 33 [34,33] rfl hc28 (oN · rfl hp29) ?_
    refine xfg 36 33 [35,33] rfl hc28 (oF · Zzd (by decide) rfl rfl) ?_
    try dsimp only [w0,w1,w2,w3]
    obtain ⟨p30,hp30,h⟩ := bindo h
    refine xrg 37 33 [36,33] rfl hc28 (oL · sc30 rfl rfl (Zxl hp30)) ?_
    refine xfg 38 33 [37,33] rfl hc28 (Zxh (q := Sl.a p30) (n := Sl.len p30) (z := Sl.cap p30) · rfl tu30 (.tmp rfl)) ?_
    refine xfg 39 33 [0,33] rfl hc28 (oM · rfl) ?_
    obtain ⟨p31,hp31,h⟩ := bindo h
    refine xfg 40 33 [39,33] rfl hc28 (oN · rfl hp31) ?_
    try dsimp only [w0,w1,w2,w3]
    refine xfg 41 33 [40,33] rfl hc28 (oF · fi32_0 (by decide) rfl rfl) ?_
    obtain ⟨p32,hp32,h⟩ := bindo h
    refine xrg 42 33 [41,33] rfl hc28 (oL · sc3 rfl rfl (Zxt hp32)) ?_
    refine xfg 43 33 [38,42,33] rfl hc28 (oB · rfl rfl rfl) ?_
    refine xfg 44 30 [33,43,30] rfl (decide_eq_false hc10) (Zxp · (.tmp rfl) hc28 (.tmp rfl)) ?_
    try dsimp only [w0,w1,w2,w3]
    refine xf 45 [30,44] rfl (Zxn · (.tmp rfl) (decide_eq_false hc10) (.tmp rfl)) ?_
    refine Zyb rfl ?_
    refine rE ?_
    try dsimp only [w0,w1,w2,w3]
    exact J1_snd  h
   ·refine xfs 34 33 [0,33] rfl (bfalse hc28) ?_
    refine xfs 35 33 [34,33] rfl (bfalse hc28) ?_
    refine xfs 36 33 [35,33] rfl (bfalse hc28) ?_
    try dsimp only [w0,w1,w2,w3]
    refine xrs 37 33 [36,33] rfl (bfalse hc28) ?_
    refine xfs 38 33 [37,33] rfl (bfalse hc28) ?_
    refine xfs 39 33 [0,33] rfl (bfalse hc28) ?_
    refine xfs 40 33 [39,33] rfl (bfalse hc28) ?_
    try dsimp only [w0,w1,w2,w3]
    refine xfs 41 33 [40,33] rfl (bfalse hc28) ?_
    refine xrs 42 33 [41,33] rfl (bfalse hc28) ?_
    refine xfs 43 33 [38,42,33] rfl (bfalse hc28) ?_
    refine xfg 44 30 [33,43,30] rfl (decide_eq_false hc10) (Zxn · (.tmp rfl) (bfalse hc28) (.bool _)) ?_
    try dsimp only [w0,w1,w2,w3]
    refine xf 45 [30,44] rfl (Zxn · (.tmp rfl) (decide_eq_false hc10) (.tmp rfl)) ?_
    refine Zyb rfl ?_
    refine rE ?_
    try dsimp only [w0,w1,w2,w3]
    exact J1_snd  h
def f (k : Nat) (x0 : HP) (x1 : Int) (x2 : (List UInt8)) (S : HS) : Option ((HP × Int) × HS) :=
 ((Y36.f k x0 x2 S).bind fun p1 =>
 (if (!Option.isNone p1.1) = true then
 ((Y0.f k p1.1 x1 p1.2).bind fun p3 =>
 J0 k x0 x1 x2 p1.1 (decide (p3.1 ≥ 0)) p3.2) else
 J0 k x0 x1 x2 p1.1 false p1.2))
theorem snd {x0 : HP} {x1 : Int} {x2 : (List UInt8)}  {p : (HP × Int) × HS} (h : f k x0 x1 x2 S = some p) : HC b w e 13 [(.ptr x0),(.int .i64 x1),(.str x2)] S (RR (.tup [(.ptr p.1.1),(.int .i64 p.1.2)]) p.2) := by
 unfold f at h
 refine HCall.of_run at_.at_ body ?_
 show HR b w e 13 none [.code c0] ⟨[(.ptr x0),(.int .i64 x1),(.str x2),z,z,z,z,z,z,z,z,z,z,z,z,z,z,z,z,z,z,z,z,z,z,z,z,z,z,z,z,z,z,z,z,z,z,z,z,z,z,z,z,z,z,z,z,z,z,z,z,z,z,z,z,z,z,z,z,z,z,z,z,z,z,z,z,z,z,z,z,z,z],[]⟩ S _
 refine qT rfl rfl rfl (qS 6 rfl (Zxa · (.const fun _ => .ptrNil)) (qS 7 rfl (Zxa · (.int _ _)) (rE ?_)))
 dsimp only [w0,w1,w2,w3]
 obtain ⟨p1,hp1,h⟩ := bindo h
 refine qT rfl rfl rfl (uM 9 rfl rfl (uM 10 rfl rfl (uQ 11 rfl (.func _) (ev2 rfl rfl) (HInv.static Y36.at_ Y36.body (Y36.snd  hp1)) (uA 8 rfl rfl (rE ?_)))))
 dsimp only [w0,w1,w2,w3]
 refine qQ rfl (qT rfl rfl rfl (uM 12 rfl rfl (qS 13 rfl (Zxx · tu39 (.tmp rfl) (.inr ⟨rfl,rfl⟩)) (uM 14 rfl rfl ?_))))
 rcases ifc h with ⟨hc2,h⟩ | ⟨hc2,h⟩
 ·refine qG 14 15 rfl hc2 (oM · rfl) ?_
  try dsimp only [w0,w1,w2,w3]
  obtain ⟨p3,hp3,h⟩ := bindo h
  refine qG 14 16 rfl hc2 (oM · rfl) (Zx6 (t := 14) (dst := some 17) rfl rfl rfl hc2 (.func _) (ev2 rfl rfl) (HInv.static Y0.at_ Y0.body (Y0.snd  hp3)) ?_)
  rintro _ _ ⟨rfl,rfl⟩
  refine qG 14 18 rfl hc2 (oC · rfl rfl) (qS 19 rfl (Zxp · (.tmp rfl) hc2 (.tmp rfl)) (rE ?_))
  dsimp only [w0,w1,w2,w3]
  exact J0_snd  h
 ·refine Zxf (dst := some 15) (t := 14) rfl rfl rfl (bfalse hc2) ?_
  try dsimp only [w0,w1,w2,w3]
  refine Zxf (dst := some 16) (t := 14) rfl rfl rfl (bfalse hc2) (Zxf (dst := some 17) (t := 14) rfl rfl rfl (bfalse hc2) (Zxf (dst := some 18) (t := 14) rfl rfl rfl (bfalse hc2) (qS 19 rfl (Zxn · (.tmp rfl) (bfalse hc2) (.bool _)) (rE ?_))))
  dsimp only [w0,w1,w2,w3]
  exact J0_snd  h
end Y9
namespace Y29
theorem at_ : FnAt Tryz.prog 20 Tryz.f20 := ⟨Tryz.func20,by kernel_rfl⟩
def d0 := (Tryz.f20.body).getD .skip
def r1 := kT d0
def r4 := kT (kY d0)
def d5 := kZ (kB d0)
def r9 := kT (kX (kA d5))
def d15 := kX (kZ (kA d5))
def r16 := kT d15
def r19 := kT (kY d15)
def r22 := kR (kW (kX d5))
def r24 := kT (kW d0)
def c23 : Code := .seq (.region 6 r24 false) .ret
def c7 : Code := .seq (.seq (.region 2 r9 false) (.cond (.tmp 9) .skip (.exit 0))) (.seq (.block 1 (.seq (.region 4 r16 false) (.cond (.tmp 17) (.seq (.region 5 r19 false) .ret) .skip))) (.region 3 r22 false))
def c0 : Code := .seq (.region 0 r1 false) (.seq (.seq (.region 1 r4 false) (.block 0 (.loop c7))) c23)
theorem body : Tryz.f20.body = some c0 := by kernel_rfl
def L0 (k : Nat) : Nat → Sl → Int → Int → HS → Option ((Bool) × HS)
 | 0,_,_,_,_ => none
 | n + 1,y0,y1,y5,S =>
  (if y5 < (Sl.len y0 : Int) then
  ((S.idx y0 y5 1).bind fun p2 =>
  ((S.ldI .i64 p2).bind fun p3 =>
  (if p3 = y1 then
  some (true,S) else
  (L0 k n) y0 y1 (w64 (y5 + 1)) S))) else
  some (false,S))
theorem L0_snd  : ∀ {n : Nat} ⦃y0 : Sl⦄ ⦃y1 : Int⦄ ⦃y5 : Int⦄ ⦃S : HS⦄ ⦃p : (Bool) × HS⦄ ⦃j m E d Gh g L G B N O K A C F : HV⦄,L0 k n y0 y1 y5 S = some p → HR b w e 20 none [.inLoop c7,.inBlock 0,.code c23] ⟨[(Sl.hv y0),(.int .i64 y1),j,m,E,(.int .i64 y5),d,Gh,g,L,G,B,N,O,K,A,C,F],[]⟩ S (RR (.bool p.1) p.2) := by
 intro n
 induction n with
 | zero => intro _ _ _ _ _ _ _ _ _ _ _ _ _ _ _ _ _ _ _ _ h; cases h
 | succ n ih =>
  intro y0 y1 y5 S p j m E d Gh g L G B N O K A C F h
  simp only [L0] at h
  refine Zxw (qQ rfl (qT rfl rfl rfl (uM 6 rfl rfl (uM 7 rfl rfl (qS 8 rfl (Zxh (q := Sl.a y0) (n := Sl.len y0) (z := Sl.cap y0) · rfl tu42 (.tmp rfl)) (uB 9 rfl rfl rfl rfl (rE ?_)))))))
  dsimp only [w0,w1,w2,w3]
  rcases ifc h with ⟨hc1,h⟩ | ⟨hc1,h⟩
  ·obtain ⟨p2,hp2,p3,hp3,h⟩ := bd2 h
   refine Zxb rfl (.tmp rfl) (decide_eq_true hc1) (Zxe rfl (qQ rfl (Zxm rfl (qT rfl rfl rfl (uM 12 rfl rfl (uM 13 rfl rfl (qS 14 rfl (oX (s := y0) · tu42 sz3 rfl rfl hp2) (uL 15 rfl sc3 rfl rfl (Zxt hp3) ?_))))))))
   try dsimp only [w0,w1,w2,w3]
   refine uM 16 rfl rfl (uB 17 rfl rfl rfl rfl (rE ?_))
   dsimp only [w0,w1,w2,w3]
   rcases ifc h with ⟨hc4,h⟩ | ⟨hc4,h⟩
   ·refine Zxb rfl (.tmp rfl) (decide_eq_true hc4) (qT rfl rfl rfl (qS 4 rfl (Zxa · (.bool _)) (rE ?_)))
    cases h
    exact Zxk rfl at_.at_ rfl (res1 rfl rfl) ⟨rfl,rfl⟩
   ·refine Zxc rfl (.tmp rfl) (decide_eq_false hc4) (Zxe rfl (Zxg (qR rfl rfl (uM 10 rfl rfl (uC 11 rfl rfl rfl (uA 5 rfl rfl (rE ?_)))))))
    dsimp only [w0,w1,w2,w3]
    exact ih h
  ·refine Zxc rfl (.tmp rfl) (decide_eq_false hc1) (Zya rfl rfl (qT rfl rfl rfl (qS 4 rfl (Zxa · (.bool _)) (rE ?_))))
   cases h
   exact Zxk rfl at_.at_ rfl (res1 rfl rfl) ⟨rfl,rfl⟩
def f (k : Nat) (x0 : Sl) (x1 : Int) (S : HS) : Option ((Bool) × HS) :=
 L0 k k x0 x1 0 S
theorem snd {x0 : Sl} {x1 : Int}  {p : (Bool) × HS} (h : f k x0 x1 S = some p) : HC b w e 20 [(Sl.hv x0),(.int .i64 x1)] S (RR (.bool p.1) p.2) := by
 unfold f at h
 refine HCall.of_run at_.at_ body ?_
 show HR b w e 20 none [.code c0] ⟨[(Sl.hv x0),(.int .i64 x1),z,z,z,z,z,z,z,z,z,z,z,z,z,z,z,z],[]⟩ S _
 refine qT rfl rfl rfl (qS 4 rfl (Zxa · (.bool _)) (rE ?_))
 dsimp only [w0,w1,w2,w3]
 refine qQ rfl (qT rfl rfl rfl (qS 5 rfl (Zxa · (.int _ _)) (rE ?_)))
 dsimp only [w0,w1,w2,w3]
 refine Zxm rfl (Zx9 rfl ?_)
 try dsimp only [w0,w1,w2,w3]
 exact L0_snd  h
end Y29
namespace Y20
theorem at_ : FnAt Tryz.prog 58 Tryz.f58 := ⟨Tryz.func58,by kernel_rfl⟩
def d0 := (Tryz.f58.body).getD .skip
def r1 := kT d0
def r4 := kT (kY d0)
def r7 := kT (kY (kY d0))
def r11 := kT (kW d0)
def d12 := kW (kB d0)
def r13 := kT d12
def r16 := kT (kY d12)
def d17 := kZ (kB d12)
def r21 := kT (kX (kA d17))
def d25 := kZ (kA d17)
def r29 := kT (kX (kA d25))
def d31 := kY (kX (kA d25))
def r32 := kT d31
def r33 := kR (kB d31)
def r35 := kR (kZ (kA d25))
def r36 := kR (kB d25)
def r39 := kT (kY (kB d12))
def r41 := kT (kZ (kW d12))
def r44 := kT (kW (kB d12))
def c43 : Code := .seq (.region 14 r44 false) .ret
def c37 : Code := .seq (.seq (.region 12 r39 false) (.cond (.tmp 40) (.region 13 r41 false) .skip)) c43
def c36 : Code := .region 7 r36 false
def c35 : Code := .region 11 r35 false
def c30 : Code := .cond (.tmp 27) (.seq (.region 9 r32 false) (.region 10 r33 false)) .skip
def c19 : Code := .seq (.seq (.region 6 r21 false) (.cond (.tmp 15) .skip (.exit 0))) (.seq (.block 1 (.seq (.seq (.region 8 r29 false) c30) c35)) c36)
def c0 : Code := .seq (.region 0 r1 false) (.seq (.seq (.region 1 r4 false) (.cond (.tmp 10) (.seq (.region 2 r7 false) .ret) .skip)) (.seq (.region 3 r11 false) (.seq (.region 4 r13 false) (.seq (.seq (.region 5 r16 false) (.block 0 (.loop c19))) c37))))
theorem body : Tryz.f58.body = some c0 := by kernel_rfl
variable {y0 y5 : Sl} {y1 y7 : Int} {y6 y27 : Bool}
def J2 (k : Nat) (rec0 : Sl → Int → Sl → Bool → Int → HS → Option ((Sl) × HS)) (y0 : Sl) (y1 : Int) (y5 : Sl) (y6 : Bool) (y7 : Int) (S : HS) : Option ((Sl) × HS) :=
 ((S.idx y0 y7 1).bind fun p11 =>
 ((S.ldI .i64 p11).bind fun p12 =>
 (letv (HS.lit S [[(.int .i64 p12)]] 1) fun p13 =>
 ((p13.2.rows (p13.1) 1).bind fun p14 =>
 ((p13.2.app y5 p14 1).bind fun p15 =>
 rec0 y0 y1 (p15.1) y6 (w64 (y7 + 1)) (p15.2))))))
theorem J2_snd {rec0 : Sl → Int → Sl → Bool → Int → HS → Option ((Sl) × HS)} (hrec0 : ∀ ⦃y0 : Sl⦄ ⦃y1 : Int⦄ ⦃y5 : Sl⦄ ⦃y6 : Bool⦄ ⦃y7 : Int⦄ ⦃S : HS⦄ ⦃p : (Sl) × HS⦄ ⦃j m E g L G B N O K A C F I J M Q U V Z a c i o q r Kf Kg Kh Ki Kj Kk Kl Km Kn Ko Kp Kq Kr Ks Kt : HV⦄,rec0 y0 y1 y5 y6 y7 S = some p → HR b w e 58 none [.inLoop c19,.inBlock 0,.code c37] ⟨[(Sl.hv y0),(.int .i64 y1),j,m,E,(Sl.hv y5),(.bool y6),(.int .i64 y7),g,L,G,B,N,O,K,A,C,F,I,J,M,Q,U,V,Z,a,c,i,o,q,r,Kf,Kg,Kh,Ki,Kj,Kk,Kl,Km,Kn,Ko,Kp,Kq,Kr,Ks,Kt],[]⟩ S (RR (Sl.hv p.1) p.2)) {p : (Sl) × HS} (h : J2 k rec0 y0 y1 y5 y6 y7 S = some p) : HR b w e 58 none [.code c35,.inBlock 1,.code c36,.inLoop c19,.inBlock 0,.code c37] ⟨[(Sl.hv y0),(.int .i64 y1),j,m,E,(Sl.hv y5),(.bool y6),(.int .i64 y7),g,L,G,B,N,O,K,A,C,F,I,J,M,Q,U,V,Z,a,c,i,o,q,r,Kf,Kg,Kh,Ki,Kj,Kk,Kl,Km,Kn,Ko,Kp,Kq,Kr,Ks,Kt],[]⟩ S (RR (Sl.hv p.1) p.2) := by
 unfold J2 at h
 obtain ⟨p11,hp11,h⟩ := bindo h
 refine qR rfl rfl (uM 32 rfl rfl (uM 33 rfl rfl (uM 34 rfl rfl (qS 35 rfl (oX (s := y0) · tu42 sz3 rfl rfl hp11) ?_))))
 try dsimp only [w0,w1,w2,w3]
 obtain ⟨p12,hp12,h⟩ := bindo h
 obtain ⟨p13,hp13,h⟩ := leto h
 obtain ⟨p14,hp14,p15,hp15,h⟩ := bd2 h
 refine uL 36 rfl sc3 rfl rfl (Zxt hp12) (qS 37 rfl (Zxi (xs := [(.tmp 36)]) el42 · rfl rfl (by decide) (ev1 rfl) rfl rfl hp13) (qS 38 rfl (Zx0 (s := y5) (s1 := (p13.1)) el42 · rfl rfl ⟨_,tu42⟩ (.tmp rfl) (.tmp rfl) hp14 hp15) (uA 5 rfl rfl (rE ?_))))
 dsimp only [w0,w1,w2,w3]
 refine Zxg (qR rfl rfl (uM 16 rfl rfl (uC 17 rfl rfl rfl (uA 7 rfl rfl (rE ?_)))))
 dsimp only [w0,w1,w2,w3]
 exact hrec0 h
def J1 (k : Nat) (rec0 : Sl → Int → Sl → Bool → Int → HS → Option ((Sl) × HS)) (y0 : Sl) (y1 : Int) (y5 : Sl) (y6 : Bool) (y7 : Int) (y27 : Bool) (S : HS) : Option ((Sl) × HS) :=
 (if y27 = true then
 (letv (HS.lit S [[(.int .i64 y1)]] 1) fun p8 =>
 ((p8.2.rows (p8.1) 1).bind fun p9 =>
 ((p8.2.app y5 p9 1).bind fun p10 =>
 J2 k rec0 y0 y1 (p10.1) true y7 (p10.2)))) else
 J2 k rec0 y0 y1 y5 y6 y7 S)
theorem J1_snd {rec0 : Sl → Int → Sl → Bool → Int → HS → Option ((Sl) × HS)} (hrec0 : ∀ ⦃y0 : Sl⦄ ⦃y1 : Int⦄ ⦃y5 : Sl⦄ ⦃y6 : Bool⦄ ⦃y7 : Int⦄ ⦃S : HS⦄ ⦃p : (Sl) × HS⦄ ⦃j m E g L G B N O K A C F I J M Q U V Z a c i o q r Kf Kg Kh Ki Kj Kk Kl Km Kn Ko Kp Kq Kr Ks Kt : HV⦄,rec0 y0 y1 y5 y6 y7 S = some p → HR b w e 58 none [.inLoop c19,.inBlock 0,.code c37] ⟨[(Sl.hv y0),(.int .i64 y1),j,m,E,(Sl.hv y5),(.bool y6),(.int .i64 y7),g,L,G,B,N,O,K,A,C,F,I,J,M,Q,U,V,Z,a,c,i,o,q,r,Kf,Kg,Kh,Ki,Kj,Kk,Kl,Km,Kn,Ko,Kp,Kq,Kr,Ks,Kt],[]⟩ S (RR (Sl.hv p.1) p.2)) {p : (Sl) × HS} (h : J1 k rec0 y0 y1 y5 y6 y7 y27 S = some p) : HR b w e 58 none [.code c30,.code c35,.inBlock 1,.code c36,.inLoop c19,.inBlock 0,.code c37] ⟨[(Sl.hv y0),(.int .i64 y1),j,m,E,(Sl.hv y5),(.bool y6),(.int .i64 y7),g,L,G,B,N,O,K,A,C,F,I,J,M,Q,U,V,Z,a,c,(.bool y27),o,q,r,Kf,Kg,Kh,Ki,Kj,Kk,Kl,Km,Kn,Ko,Kp,Kq,Kr,Ks,Kt],[]⟩ S (RR (Sl.hv p.1) p.2) := by
 unfold J1 at h
 rcases ifc h with ⟨hc7,h⟩ | ⟨hc7,h⟩
 ·obtain ⟨p8,hp8,h⟩ := leto h
  obtain ⟨p9,hp9,p10,hp10,h⟩ := bd2 h
  refine Zxb rfl (.tmp rfl) hc7 (qT rfl rfl rfl (uM 28 rfl rfl (uM 29 rfl rfl (qS 30 rfl (Zxi (xs := [(.tmp 29)]) el42 · rfl rfl (by decide) (ev1 rfl) rfl rfl hp8) (qS 31 rfl (Zx0 (s := y5) (s1 := (p8.1)) el42 · rfl rfl ⟨_,tu42⟩ (.tmp rfl) (.tmp rfl) hp9 hp10) ?_)))))
  try dsimp only [w0,w1,w2,w3]
  refine uA 5 rfl rfl (rE ?_)
  dsimp only [w0,w1,w2,w3]
  refine qR rfl rfl (qS 6 rfl (Zxa · (.bool _)) (rE ?_))
  dsimp only [w0,w1,w2,w3]
  exact J2_snd hrec0 h
 ·refine Zxc rfl (.tmp rfl) (bfalse hc7) (Zxe rfl ?_)
  try dsimp only [w0,w1,w2,w3]
  exact J2_snd hrec0 h
def J3 (k : Nat) (y5 : Sl) (S : HS) : Option ((Sl) × HS) :=
 some (y5,S)
theorem J3_snd  {p : (Sl) × HS} (h : J3 k y5 S = some p) : HR b w e 58 none [.code c43] ⟨[Ga,Gb,j,m,E,(Sl.hv y5),d,Gh,g,L,G,B,N,O,K,A,C,F,I,J,M,Q,U,V,Z,a,c,i,o,q,r,Kf,Kg,Kh,Ki,Kj,Kk,Kl,Km,Kn,Ko,Kp,Kq,Kr,Ks,Kt],[]⟩ S (RR (Sl.hv p.1) p.2) := by
 unfold J3 at h
 refine qT rfl rfl rfl (uM 45 rfl rfl (uA 4 rfl rfl (rE ?_)))
 cases h
 exact Zxk rfl at_.at_ rfl (res1 rfl rfl) ⟨rfl,rfl⟩
def L0 (k : Nat) : Nat → Sl → Int → Sl → Bool → Int → HS → Option ((Sl) × HS)
 | 0,_,_,_,_,_,_ => none
 | n + 1,y0,y1,y5,y6,y7,S =>
  (if y7 < (Sl.len y0 : Int) then
  (if (!y6) = true then
  ((S.idx y0 y7 1).bind fun p5 =>
  ((S.ldI .i64 p5).bind fun p6 =>
  J1 k (L0 k n) y0 y1 y5 y6 y7 (decide (p6 > y1)) S)) else
  J1 k (L0 k n) y0 y1 y5 y6 y7 false S) else
  (if (!y6) = true then
  (letv (HS.lit S [[(.int .i64 y1)]] 1) fun p17 =>
  ((p17.2.rows (p17.1) 1).bind fun p18 =>
  ((p17.2.app y5 p18 1).bind fun p19 =>
  J3 k (p19.1) (p19.2)))) else
  J3 k y5 S))
theorem L0_snd  : ∀ {n : Nat} ⦃y0 : Sl⦄ ⦃y1 : Int⦄ ⦃y5 : Sl⦄ ⦃y6 : Bool⦄ ⦃y7 : Int⦄ ⦃S : HS⦄ ⦃p : (Sl) × HS⦄ ⦃j m E g L G B N O K A C F I J M Q U V Z a c i o q r Kf Kg Kh Ki Kj Kk Kl Km Kn Ko Kp Kq Kr Ks Kt : HV⦄,L0 k n y0 y1 y5 y6 y7 S = some p → HR b w e 58 none [.inLoop c19,.inBlock 0,.code c37] ⟨[(Sl.hv y0),(.int .i64 y1),j,m,E,(Sl.hv y5),(.bool y6),(.int .i64 y7),g,L,G,B,N,O,K,A,C,F,I,J,M,Q,U,V,Z,a,c,i,o,q,r,Kf,Kg,Kh,Ki,Kj,Kk,Kl,Km,Kn,Ko,Kp,Kq,Kr,Ks,Kt],[]⟩ S (RR (Sl.hv p.1) p.2) := by
 intro n
 induction n with
 | zero => intro _ _ _ _ _ _ _ _ _ _ _ _ _ _ _ _ _ _ _ _ _ _ _ _ _ _ _ _ _ _ _ _ _ _ _ _ _ _ _ _ _ _ _ _ _ _ _ _ h; cases h
 | succ n ih =>
  intro y0 y1 y5 y6 y7 S p j m E g L G B N O K A C F I J M Q U V Z a c i o q r Kf Kg Kh Ki Kj Kk Kl Km Kn Ko Kp Kq Kr Ks Kt h
  simp only [L0] at h
  refine Zxw (qQ rfl (qT rfl rfl rfl (uM 12 rfl rfl (uM 13 rfl rfl (qS 14 rfl (Zxh (q := Sl.a y0) (n := Sl.len y0) (z := Sl.cap y0) · rfl tu42 (.tmp rfl)) (uB 15 rfl rfl rfl rfl (rE ?_)))))))
  dsimp only [w0,w1,w2,w3]
  rcases ifc h with ⟨hc3,h⟩ | ⟨hc3,h⟩
  ·refine Zxb rfl (.tmp rfl) (decide_eq_true hc3) (Zxe rfl (qQ rfl (Zxm rfl (qQ rfl (qT rfl rfl rfl (uM 18 rfl rfl (qS 19 rfl (Zys · (.tmp rfl)) (uM 20 rfl rfl ?_))))))))
   rcases ifc h with ⟨hc4,h⟩ | ⟨hc4,h⟩
   ·refine qG 20 21 rfl hc4 (oM · rfl) ?_
    try dsimp only [w0,w1,w2,w3]
    obtain ⟨p5,hp5,p6,hp6,h⟩ := bd2 h
    refine qG 20 22 rfl hc4 (oM · rfl) (qG 20 23 rfl hc4 (oX (s := y0) · tu42 sz3 rfl rfl hp5) (qG 20 24 rfl hc4 (oL · sc3 rfl rfl (Zxt hp6)) (qG 20 25 rfl hc4 (oM · rfl) ?_)))
    try dsimp only [w0,w1,w2,w3]
    refine qG 20 26 rfl hc4 (oB · rfl rfl rfl) (qS 27 rfl (Zxp · (.tmp rfl) hc4 (.tmp rfl)) (rE ?_))
    dsimp only [w0,w1,w2,w3]
    exact J1_snd ih h
   ·refine Zxf (dst := some 21) (t := 20) rfl rfl rfl (bfalse hc4) ?_
    try dsimp only [w0,w1,w2,w3]
    refine Zxf (dst := some 22) (t := 20) rfl rfl rfl (bfalse hc4) (Zxf (dst := some 23) (t := 20) rfl rfl rfl (bfalse hc4) (Zxf (dst := some 24) (t := 20) rfl rfl rfl (bfalse hc4) (Zxf (dst := some 25) (t := 20) rfl rfl rfl (bfalse hc4) ?_)))
    try dsimp only [w0,w1,w2,w3]
    refine Zxf (dst := some 26) (t := 20) rfl rfl rfl (bfalse hc4) (qS 27 rfl (Zxn · (.tmp rfl) (bfalse hc4) (.bool _)) (rE ?_))
    dsimp only [w0,w1,w2,w3]
    exact J1_snd ih h
  ·refine Zxc rfl (.tmp rfl) (decide_eq_false hc3) (Zya rfl rfl (qQ rfl (qT rfl rfl rfl (uM 39 rfl rfl (qS 40 rfl (Zys · (.tmp rfl)) (rE ?_))))))
   dsimp only [w0,w1,w2,w3]
   rcases ifc h with ⟨hc16,h⟩ | ⟨hc16,h⟩
   ·obtain ⟨p17,hp17,h⟩ := leto h
    obtain ⟨p18,hp18,p19,hp19,h⟩ := bd2 h
    refine Zxb rfl (.tmp rfl) hc16 (qR rfl rfl (uM 41 rfl rfl (uM 42 rfl rfl (qS 43 rfl (Zxi (xs := [(.tmp 42)]) el42 · rfl rfl (by decide) (ev1 rfl) rfl rfl hp17) (qS 44 rfl (Zx0 (s := y5) (s1 := (p17.1)) el42 · rfl rfl ⟨_,tu42⟩ (.tmp rfl) (.tmp rfl) hp18 hp19) ?_)))))
    try dsimp only [w0,w1,w2,w3]
    refine uA 5 rfl rfl (rE ?_)
    dsimp only [w0,w1,w2,w3]
    exact J3_snd  h
   ·refine Zxc rfl (.tmp rfl) (bfalse hc16) (Zxe rfl ?_)
    try dsimp only [w0,w1,w2,w3]
    exact J3_snd  h
def f (k : Nat) (x0 : Sl) (x1 : Int) (S : HS) : Option ((Sl) × HS) :=
 ((Y29.f k x0 x1 S).bind fun p1 =>
 (if p1.1 = true then
 some (x0,p1.2) else
 L0 k k x0 x1 Sl.nil false 0 p1.2))
theorem snd {x0 : Sl} {x1 : Int}  {p : (Sl) × HS} (h : f k x0 x1 S = some p) : HC b w e 58 [(Sl.hv x0),(.int .i64 x1)] S (RR (Sl.hv p.1) p.2) := by
 unfold f at h
 refine HCall.of_run at_.at_ body ?_
 show HR b w e 58 none [.code c0] ⟨[(Sl.hv x0),(.int .i64 x1),z,z,z,z,z,z,z,z,z,z,z,z,z,z,z,z,z,z,z,z,z,z,z,z,z,z,z,z,z,z,z,z,z,z,z,z,z,z,z,z,z,z,z,z],[]⟩ S _
 refine qT rfl rfl rfl (qS 4 rfl (Zxa · (.const fun _ => .slNil none)) (rE ?_))
 dsimp only [w0,w1,w2,w3]
 obtain ⟨p1,hp1,h⟩ := bindo h
 refine qQ rfl (qT rfl rfl rfl (uM 8 rfl rfl (uM 9 rfl rfl (uQ 10 rfl (.func _) (ev2 rfl rfl) (HInv.static Y29.at_ Y29.body (Y29.snd  hp1)) (rE ?_)))))
 dsimp only [w0,w1,w2,w3]
 rcases ifc h with ⟨hc2,h⟩ | ⟨hc2,h⟩
 ·refine Zxb rfl (.tmp rfl) hc2 (qT rfl rfl rfl (uM 11 rfl rfl (uA 4 rfl rfl (rE ?_))))
  cases h
  exact Zxk rfl at_.at_ rfl (res1 rfl rfl) ⟨rfl,rfl⟩
 ·refine Zxc rfl (.tmp rfl) (bfalse hc2) (Zxe rfl (qT rfl rfl rfl (qS 5 rfl (Zxa · (.const fun _ => .slNil none)) (rE ?_))))
  dsimp only [w0,w1,w2,w3]
  refine qT rfl rfl rfl (qS 6 rfl (Zxa · (.bool _)) (rE ?_))
  dsimp only [w0,w1,w2,w3]
  refine qQ rfl (qT rfl rfl rfl (qS 7 rfl (Zxa · (.int _ _)) (rE ?_)))
  dsimp only [w0,w1,w2,w3]
  refine Zxm rfl (Zx9 rfl ?_)
  try dsimp only [w0,w1,w2,w3]
  exact L0_snd  h
end Y20
namespace Y13
theorem at_ : FnAt Tryz.prog 17 Tryz.f17 := ⟨Tryz.func17,by kernel_rfl⟩
def d0 := (Tryz.f17.body).getD .skip
def r1 := kT d0
def r3 := kT (kB d0)
def d5 := kY (kB d0)
def r6 := kT d5
def d9 := kX (kB d5)
def r11 := kT (kA d9)
def d17 := kX (kB d9)
def r18 := kT d17
def d21 := kX (kB d17)
def r23 := kT (kA d21)
def r30 := kT (kX (kB d21))
def r32 := kT (kZ (kY d21))
def r34 := kT (kW (kX (kB d21)))
def r36 := kR (kW d21)
def r37 := kR (kW d9)
def r39 := kT (kW (kB d0))
def c38 : Code := .seq (.region 11 r39 false) .ret
def c37 : Code := .region 4 r37 false
def c36 : Code := .region 7 r36 false
def c33 : Code := .cond (.tmp 61) (.region 10 r34 false) .skip
def c21 : Code := .seq (.seq (.region 6 r23 false) (.cond (.tmp 30) .skip (.exit 2))) (.seq (.block 3 (.seq (.region 8 r30 false) (.seq (.region 9 r32 false) c33))) c36)
def c9 : Code := .seq (.seq (.region 3 r11 false) (.cond (.tmp 15) .skip (.exit 0))) (.seq (.block 1 (.seq (.region 5 r18 false) (.block 2 (.loop c21)))) c37)
def c0 : Code := .seq (.region 0 r1 false) (.seq (.region 1 r3 false) (.seq (.seq (.region 2 r6 false) (.block 0 (.loop c9))) c38))
theorem body : Tryz.f17.body = some c0 := by kernel_rfl
variable {y0 : HP} {y1 y6 y7 y8 : Int} {y5 : Sl} {y61 : Bool}
def J3 (k : Nat) (rec0 : HP → Int → Sl → Int → Int → HS → Option ((Sl) × HS)) (rec1 : HP → Int → Sl → Int → HS → Option ((Sl) × HS)) (y0 : HP) (y1 : Int) (y5 : Sl) (y6 : Int) (y7 : Int) (S : HS) : Option ((Sl) × HS) :=
 rec0 y0 y1 y5 y6 (w64 (y7 + 1)) S
theorem J3_snd {rec0 : HP → Int → Sl → Int → Int → HS → Option ((Sl) × HS)} {rec1 : HP → Int → Sl → Int → HS → Option ((Sl) × HS)} (hrec0 : ∀ ⦃y0 : HP⦄ ⦃y1 : Int⦄ ⦃y5 : Sl⦄ ⦃y6 : Int⦄ ⦃y7 : Int⦄ ⦃S : HS⦄ ⦃p : (Sl) × HS⦄ ⦃j m E g L G B N O K A C F I J M Q U V Z a c i o q r Kf Kg Kh Ki Kj Kk Kl Km Kn Ko Kp Kq Kr Ks Kt Ku Kv Kw Kx Ky Kz Ma Mb Mc Md Me Mf Mg Mh Mi Mj Mk Ml Mm Mn : HV⦄,rec0 y0 y1 y5 y6 y7 S = some p → HR b w e 17 none [.inLoop c21,.inBlock 2,.inBlock 1,.code c37,.inLoop c9,.inBlock 0,.code c38] ⟨[(.ptr y0),(.int .i64 y1),j,m,E,(Sl.hv y5),(.int .i64 y6),(.int .i64 y7),g,L,G,B,N,O,K,A,C,F,I,J,M,Q,U,V,Z,a,c,i,o,q,r,Kf,Kg,Kh,Ki,Kj,Kk,Kl,Km,Kn,Ko,Kp,Kq,Kr,Ks,Kt,Ku,Kv,Kw,Kx,Ky,Kz,Ma,Mb,Mc,Md,Me,Mf,Mg,Mh,Mi,Mj,Mk,Ml,Mm,Mn],[]⟩ S (RR (Sl.hv p.1) p.2)) (hrec1 : ∀ ⦃y0 : HP⦄ ⦃y1 : Int⦄ ⦃y5 : Sl⦄ ⦃y6 : Int⦄ ⦃S : HS⦄ ⦃p : (Sl) × HS⦄ ⦃j m E Gh g L G B N O K A C F I J M Q U V Z a c i o q r Kf Kg Kh Ki Kj Kk Kl Km Kn Ko Kp Kq Kr Ks Kt Ku Kv Kw Kx Ky Kz Ma Mb Mc Md Me Mf Mg Mh Mi Mj Mk Ml Mm Mn : HV⦄,rec1 y0 y1 y5 y6 S = some p → HR b w e 17 none [.inLoop c9,.inBlock 0,.code c38] ⟨[(.ptr y0),(.int .i64 y1),j,m,E,(Sl.hv y5),(.int .i64 y6),Gh,g,L,G,B,N,O,K,A,C,F,I,J,M,Q,U,V,Z,a,c,i,o,q,r,Kf,Kg,Kh,Ki,Kj,Kk,Kl,Km,Kn,Ko,Kp,Kq,Kr,Ks,Kt,Ku,Kv,Kw,Kx,Ky,Kz,Ma,Mb,Mc,Md,Me,Mf,Mg,Mh,Mi,Mj,Mk,Ml,Mm,Mn],[]⟩ S (RR (Sl.hv p.1) p.2)) {p : (Sl) × HS} (h : J3 k rec0 rec1 y0 y1 y5 y6 y7 S = some p) : HR b w e 17 none [.code c36,.inLoop c21,.inBlock 2,.inBlock 1,.code c37,.inLoop c9,.inBlock 0,.code c38] ⟨[(.ptr y0),(.int .i64 y1),j,m,E,(Sl.hv y5),(.int .i64 y6),(.int .i64 y7),g,L,G,B,N,O,K,A,C,F,I,J,M,Q,U,V,Z,a,c,i,o,q,r,Kf,Kg,Kh,Ki,Kj,Kk,Kl,Km,Kn,Ko,Kp,Kq,Kr,Ks,Kt,Ku,Kv,Kw,Kx,Ky,Kz,Ma,Mb,Mc,Md,Me,Mf,Mg,Mh,Mi,Mj,Mk,Ml,Mm,Mn],[]⟩ S (RR (Sl.hv p.1) p.2) := by
 unfold J3 at h
 refine qR rfl rfl (uM 31 rfl rfl (uC 32 rfl rfl rfl (uA 7 rfl rfl (rE ?_))))
 dsimp only [w0,w1,w2,w3]
 exact hrec0 h
def J2 (k : Nat) (rec0 : HP → Int → Sl → Int → Int → HS → Option ((Sl) × HS)) (rec1 : HP → Int → Sl → Int → HS → Option ((Sl) × HS)) (y0 : HP) (y1 : Int) (y5 : Sl) (y6 : Int) (y7 : Int) (y8 : Int) (y61 : Bool) (S : HS) : Option ((Sl) × HS) :=
 (if y61 = true then
 ((Y20.f k y5 y8 S).bind fun p26 =>
 J3 k rec0 rec1 y0 y1 p26.1 y6 y7 p26.2) else
 J3 k rec0 rec1 y0 y1 y5 y6 y7 S)
theorem J2_snd {rec0 : HP → Int → Sl → Int → Int → HS → Option ((Sl) × HS)} {rec1 : HP → Int → Sl → Int → HS → Option ((Sl) × HS)} (hrec0 : ∀ ⦃y0 : HP⦄ ⦃y1 : Int⦄ ⦃y5 : Sl⦄ ⦃y6 : Int⦄ ⦃y7 : Int⦄ ⦃S : HS⦄ ⦃p : (Sl) × HS⦄ ⦃j m E g L G B N O K A C F I J M Q U V Z a c i o q r Kf Kg Kh Ki Kj Kk Kl Km Kn Ko Kp Kq Kr Ks Kt Ku Kv Kw Kx Ky Kz Ma Mb Mc Md Me Mf Mg Mh Mi Mj Mk Ml Mm Mn : HV⦄,rec0 y0 y1 y5 y6 y7 S = some p → HR b w e 17 none [.inLoop c21,.inBlock 2,.inBlock 1,.code c37,.inLoop c9,.inBlock 0,.code c38] ⟨[(.ptr y0),(.int .i64 y1),j,m,E,(Sl.hv y5),(.int .i64 y6),(.int .i64 y7),g,L,G,B,N,O,K,A,C,F,I,J,M,Q,U,V,Z,a,c,i,o,q,r,Kf,Kg,Kh,Ki,Kj,Kk,Kl,Km,Kn,Ko,Kp,Kq,Kr,Ks,Kt,Ku,Kv,Kw,Kx,Ky,Kz,Ma,Mb,Mc,Md,Me,Mf,Mg,Mh,Mi,Mj,Mk,Ml,Mm,Mn],[]⟩ S (RR (Sl.hv p.1) p.2)) (hrec1 : ∀ ⦃y0 : HP⦄ ⦃y1 : Int⦄ ⦃y5 : Sl⦄ ⦃y6 : Int⦄ ⦃S : HS⦄ ⦃p : (Sl) × HS⦄ ⦃j m E Gh g L G B N O K A C F I J M Q U V Z a c i o q r Kf Kg Kh Ki Kj Kk Kl Km Kn Ko Kp Kq Kr Ks Kt Ku Kv Kw Kx Ky Kz Ma Mb Mc Md Me Mf Mg Mh Mi Mj Mk Ml Mm Mn : HV⦄,rec1 y0 y1 y5 y6 S = some p → HR b w e 17 none [.inLoop c9,.inBlock 0,.code c38] ⟨[(.ptr y0),(.int .i64 y1),j,m,E,(Sl.hv y5),(.int .i64 y6),Gh,g,L,G,B,N,O,K,A,C,F,I,J,M,Q,U,V,Z,a,c,i,o,q,r,Kf,Kg,Kh,Ki,Kj,Kk,Kl,Km,Kn,Ko,Kp,Kq,Kr,Ks,Kt,Ku,Kv,Kw,Kx,Ky,Kz,Ma,Mb,Mc,Md,Me,Mf,Mg,Mh,Mi,Mj,Mk,Ml,Mm,Mn],[]⟩ S (RR (Sl.hv p.1) p.2)) {p : (Sl) × HS} (h : J2 k rec0 rec1 y0 y1 y5 y6 y7 y8 y61 S = some p) : HR b w e 17 none [.code c33,.inBlock 3,.code c36,.inLoop c21,.inBlock 2,.inBlock 1,.code c37,.inLoop c9,.inBlock 0,.code c38] ⟨[(.ptr y0),(.int .i64 y1),j,m,E,(Sl.hv y5),(.int .i64 y6),(.int .i64 y7),(.int .i64 y8),L,G,B,N,O,K,A,C,F,I,J,M,Q,U,V,Z,a,c,i,o,q,r,Kf,Kg,Kh,Ki,Kj,Kk,Kl,Km,Kn,Ko,Kp,Kq,Kr,Ks,Kt,Ku,Kv,Kw,Kx,Ky,Kz,Ma,Mb,Mc,Md,Me,Mf,Mg,Mh,Mi,(.bool y61),Mk,Ml,Mm,Mn],[]⟩ S (RR (Sl.hv p.1) p.2) := by
 unfold J2 at h
 rcases ifc h with ⟨hc25,h⟩ | ⟨hc25,h⟩
 ·obtain ⟨p26,hp26,h⟩ := bindo h
  refine Zxb rfl (.tmp rfl) hc25 (qR rfl rfl (uM 62 rfl rfl (uM 63 rfl rfl (uQ 64 rfl (.func _) (ev2 rfl rfl) (HInv.static Y20.at_ Y20.body (Y20.snd  hp26)) (uA 5 rfl rfl (rE ?_))))))
  dsimp only [w0,w1,w2,w3]
  refine Zxg ?_
  try dsimp only [w0,w1,w2,w3]
  exact J3_snd hrec0 hrec1 h
 ·refine Zxc rfl (.tmp rfl) (bfalse hc25) (Zxe rfl (Zxg ?_))
  try dsimp only [w0,w1,w2,w3]
  exact J3_snd hrec0 hrec1 h
def L1 (k : Nat) (rec0 : HP → Int → Sl → Int → HS → Option ((Sl) × HS)) : Nat → HP → Int → Sl → Int → Int → HS → Option ((Sl) × HS)
 | 0,_,_,_,_,_,_ => none
 | n + 1,y0,y1,y5,y6,y7,S =>
  (y0.bind fun p4 =>
  ((S.ldSl (HA.fld p4 3)).bind fun p5 =>
  ((S.idx p5 y6 1).bind fun p6 =>
  ((S.ldP p6).bind fun p7 =>
  (p7.bind fun p8 =>
  ((S.ldSl (HA.fld p8 2)).bind fun p9 =>
  (if y7 < (Sl.len p9 : Int) then
  (y0.bind fun p11 =>
  ((S.ldSl (HA.fld p11 3)).bind fun p12 =>
  ((S.idx p12 y6 1).bind fun p13 =>
  ((S.ldP p13).bind fun p14 =>
  (p14.bind fun p15 =>
  ((S.ldSl (HA.fld p15 2)).bind fun p16 =>
  ((S.idx p16 y7 3).bind fun p17 =>
  ((S.ldI .i64 (HA.fld p17 0)).bind fun p18 =>
  (if (!decide (p18 = y1)) = true then
  (y0.bind fun p20 =>
  ((S.ldSl (HA.fld p20 3)).bind fun p21 =>
  ((S.idx p21 y6 1).bind fun p22 =>
  ((S.ldP p22).bind fun p23 =>
  ((Y0.f k p23 y1 S).bind fun p24 =>
  J2 k (L1 k rec0 n) rec0 y0 y1 y5 y6 y7 p18 (decide (p24.1 ≥ 0)) p24.2))))) else
  J2 k (L1 k rec0 n) rec0 y0 y1 y5 y6 y7 p18 false S))))))))) else
  rec0 y0 y1 y5 (w64 (y6 + 1)) S)))))))
theorem L1_snd {rec0 : HP → Int → Sl → Int → HS → Option ((Sl) × HS)} (hrec0 : ∀ ⦃y0 : HP⦄ ⦃y1 : Int⦄ ⦃y5 : Sl⦄ ⦃y6 : Int⦄ ⦃S : HS⦄ ⦃p : (Sl) × HS⦄ ⦃j m E Gh g L G B N O K A C F I J M Q U V Z a c i o q r Kf Kg Kh Ki Kj Kk Kl Km Kn Ko Kp Kq Kr Ks Kt Ku Kv Kw Kx Ky Kz Ma Mb Mc Md Me Mf Mg Mh Mi Mj Mk Ml Mm Mn : HV⦄,rec0 y0 y1 y5 y6 S = some p → HR b w e 17 none [.inLoop c9,.inBlock 0,.code c38] ⟨[(.ptr y0),(.int .i64 y1),j,m,E,(Sl.hv y5),(.int .i64 y6),Gh,g,L,G,B,N,O,K,A,C,F,I,J,M,Q,U,V,Z,a,c,i,o,q,r,Kf,Kg,Kh,Ki,Kj,Kk,Kl,Km,Kn,Ko,Kp,Kq,Kr,Ks,Kt,Ku,Kv,Kw,Kx,Ky,Kz,Ma,Mb,Mc,Md,Me,Mf,Mg,Mh,Mi,Mj,Mk,Ml,Mm,Mn],[]⟩ S (RR (Sl.hv p.1) p.2)) : ∀ {n : Nat} ⦃y0 : HP⦄ ⦃y1 : Int⦄ ⦃y5 : Sl⦄ ⦃y6 : Int⦄ ⦃y7 : Int⦄ ⦃S : HS⦄ ⦃p : (Sl) × HS⦄ ⦃j m E g L G B N O K A C F I J M Q U V Z a c i o q r Kf Kg Kh Ki Kj Kk Kl Km Kn Ko Kp Kq Kr Ks Kt Ku Kv Kw Kx Ky Kz Ma Mb Mc Md Me Mf Mg Mh Mi Mj Mk Ml Mm Mn : HV⦄,L1 k rec0 n y0 y1 y5 y6 y7 S = some p → HR b w e 17 none [.inLoop c21,.inBlock 2,.inBlock 1,.code c37,.inLoop c9,.inBlock 0,.code c38] ⟨[(.ptr y0),(.int .i64 y1),j,m,E,(Sl.hv y5),(.int .i64 y6),(.int .i64 y7),g,L,G,B,N,O,K,A,C,F,I,J,M,Q,U,V,Z,a,c,i,o,q,r,Kf,Kg,Kh,Ki,Kj,Kk,Kl,Km,Kn,Ko,Kp,Kq,Kr,Ks,Kt,Ku,Kv,Kw,Kx,Ky,Kz,Ma,Mb,Mc,Md,Me,Mf,Mg,Mh,Mi,Mj,Mk,Ml,Mm,Mn],[]⟩ S (RR (Sl.hv p.1) p.2) := by
 intro n
 induction n with
 | zero => intro _ _ _ _ _ _ _ _ _ _ _ _ _ _ _ _ _ _ _ _ _ _ _ _ _ _ _ _ _ _ _ _ _ _ _ _ _ _ _ _ _ _ _ _ _ _ _ _ _ _ _ _ _ _ _ _ _ _ _ _ _ _ _ _ _ _ _ _ h; cases h
 | succ n ih =>
  intro y0 y1 y5 y6 y7 S p j m E g L G B N O K A C F I J M Q U V Z a c i o q r Kf Kg Kh Ki Kj Kk Kl Km Kn Ko Kp Kq Kr Ks Kt Ku Kv Kw Kx Ky Kz Ma Mb Mc Md Me Mf Mg Mh Mi Mj Mk Ml Mm Mn h
  simp only [L1] at h
  obtain ⟨p4,hp4,h⟩ := bindo h
  refine Zxw (qQ rfl (qT rfl rfl rfl (uM 18 rfl rfl (uM 19 rfl rfl (uN 20 rfl rfl hp4 (uF 21 rfl Zzd (by decide) rfl rfl ?_))))))
  try dsimp only [w0,w1,w2,w3]
  obtain ⟨p5,hp5,p6,hp6,p7,hp7,h⟩ := bd3 h
  refine uL 22 rfl sc30 rfl rfl (Zxl hp5) (uM 23 rfl rfl (qS 24 rfl (oX (s := p5) · tu30 sz39 rfl rfl hp6) (uL 25 rfl sc39 rfl rfl (Zx5 hp7) ?_)))
  try dsimp only [w0,w1,w2,w3]
  obtain ⟨p8,hp8,p9,hp9,h⟩ := bd2 h
  refine uN 26 rfl rfl hp8 (uF 27 rfl Zaaw (by decide) rfl rfl (uL 28 rfl sc87 rfl rfl (Zxl hp9) (qS 29 rfl (Zxh (q := Sl.a p9) (n := Sl.len p9) (z := Sl.cap p9) · rfl tu87 (.tmp rfl)) ?_)))
  try dsimp only [w0,w1,w2,w3]
  refine uB 30 rfl rfl rfl rfl (rE ?_)
  dsimp only [w0,w1,w2,w3]
  rcases ifc h with ⟨hc10,h⟩ | ⟨hc10,h⟩
  ·obtain ⟨p11,hp11,p12,hp12,h⟩ := bd2 h
   refine Zxb rfl (.tmp rfl) (decide_eq_true hc10) (Zxe rfl (qQ rfl (Zxm rfl (qT rfl rfl rfl (uM 33 rfl rfl (uN 34 rfl rfl hp11 (uF 35 rfl Zzd (by decide) rfl rfl (uL 36 rfl sc30 rfl rfl (Zxl hp12) ?_))))))))
   try dsimp only [w0,w1,w2,w3]
   obtain ⟨p13,hp13,p14,hp14,p15,hp15,h⟩ := bd3 h
   refine uM 37 rfl rfl (qS 38 rfl (oX (s := p12) · tu30 sz39 rfl rfl hp13) (uL 39 rfl sc39 rfl rfl (Zx5 hp14) (uN 40 rfl rfl hp15 ?_)))
   try dsimp only [w0,w1,w2,w3]
   obtain ⟨p16,hp16,p17,hp17,h⟩ := bd2 h
   refine uF 41 rfl Zaaw (by decide) rfl rfl (uL 42 rfl sc87 rfl rfl (Zxl hp16) (uM 43 rfl rfl (qS 44 rfl (oX (s := p16) · tu87 sz62 rfl rfl hp17) ?_)))
   try dsimp only [w0,w1,w2,w3]
   obtain ⟨p18,hp18,h⟩ := bindo h
   refine uF 45 rfl Zagp (by decide) rfl rfl (uL 46 rfl sc3 rfl rfl (Zxt hp18) (uA 8 rfl rfl (rE ?_)))
   dsimp only [w0,w1,w2,w3]
   refine qT rfl rfl rfl (uM 47 rfl rfl (uM 48 rfl rfl (uB 49 rfl rfl rfl rfl (uM 50 rfl rfl ?_))))
   try dsimp only [w0,w1,w2,w3]
   rcases ifc h with ⟨hc19,h⟩ | ⟨hc19,h⟩
   ·obtain ⟨p20,hp20,p21,hp21,h⟩ := bd2 h
    refine qG 50 51 rfl hc19 (oM · rfl) (qG 50 52 rfl hc19 (oN · rfl hp20) (qG 50 53 rfl hc19 (oF · Zzd (by decide) rfl rfl) (qG 50 54 rfl hc19 (oL · sc30 rfl rfl (Zxl hp21)) ?_)))
    try dsimp only [w0,w1,w2,w3]
    obtain ⟨p22,hp22,p23,hp23,h⟩ := bd2 h
    refine qG 50 55 rfl hc19 (oM · rfl) (qG 50 56 rfl hc19 (oX (s := p21) · tu30 sz39 rfl rfl hp22) (qG 50 57 rfl hc19 (oL · sc39 rfl rfl (Zx5 hp23)) (qG 50 58 rfl hc19 (oM · rfl) ?_)))
    try dsimp only [w0,w1,w2,w3]
    obtain ⟨p24,hp24,h⟩ := bindo h
    refine Zx6 (t := 50) (dst := some 59) rfl rfl rfl hc19 (.func _) (ev2 rfl rfl) (HInv.static Y0.at_ Y0.body (Y0.snd  hp24)) ?_
    rintro _ _ ⟨rfl,rfl⟩
    refine qG 50 60 rfl hc19 (oC · rfl rfl) (qS 61 rfl (Zxp · (.tmp rfl) hc19 (.tmp rfl)) (rE ?_))
    dsimp only [w0,w1,w2,w3]
    exact J2_snd ih hrec0 h
   ·refine Zxf (dst := some 51) (t := 50) rfl rfl rfl (bfalse hc19) (Zxf (dst := some 52) (t := 50) rfl rfl rfl (bfalse hc19) (Zxf (dst := some 53) (t := 50) rfl rfl rfl (bfalse hc19) (Zxf (dst := some 54) (t := 50) rfl rfl rfl (bfalse hc19) ?_)))
    try dsimp only [w0,w1,w2,w3]
    refine Zxf (dst := some 55) (t := 50) rfl rfl rfl (bfalse hc19) (Zxf (dst := some 56) (t := 50) rfl rfl rfl (bfalse hc19) (Zxf (dst := some 57) (t := 50) rfl rfl rfl (bfalse hc19) (Zxf (dst := some 58) (t := 50) rfl rfl rfl (bfalse hc19) ?_)))
    try dsimp only [w0,w1,w2,w3]
    refine Zxf (dst := some 59) (t := 50) rfl rfl rfl (bfalse hc19) (Zxf (dst := some 60) (t := 50) rfl rfl rfl (bfalse hc19) (qS 61 rfl (Zxn · (.tmp rfl) (bfalse hc19) (.bool _)) (rE ?_)))
    dsimp only [w0,w1,w2,w3]
    exact J2_snd ih hrec0 h
  ·refine Zxc rfl (.tmp rfl) (decide_eq_false hc10) (Zya rfl rfl (Zxg (qR rfl rfl (uM 16 rfl rfl (uC 17 rfl rfl rfl (uA 6 rfl rfl (rE ?_)))))))
   dsimp only [w0,w1,w2,w3]
   exact hrec0 h
def L0 (k : Nat) : Nat → HP → Int → Sl → Int → HS → Option ((Sl) × HS)
 | 0,_,_,_,_,_ => none
 | n + 1,y0,y1,y5,y6,S =>
  (y0.bind fun p1 =>
  ((S.ldSl (HA.fld p1 3)).bind fun p2 =>
  (if y6 < (Sl.len p2 : Int) then
  L1 k (L0 k n) k y0 y1 y5 y6 0 S else
  some (y5,S))))
theorem L0_snd  : ∀ {n : Nat} ⦃y0 : HP⦄ ⦃y1 : Int⦄ ⦃y5 : Sl⦄ ⦃y6 : Int⦄ ⦃S : HS⦄ ⦃p : (Sl) × HS⦄ ⦃j m E Gh g L G B N O K A C F I J M Q U V Z a c i o q r Kf Kg Kh Ki Kj Kk Kl Km Kn Ko Kp Kq Kr Ks Kt Ku Kv Kw Kx Ky Kz Ma Mb Mc Md Me Mf Mg Mh Mi Mj Mk Ml Mm Mn : HV⦄,L0 k n y0 y1 y5 y6 S = some p → HR b w e 17 none [.inLoop c9,.inBlock 0,.code c38] ⟨[(.ptr y0),(.int .i64 y1),j,m,E,(Sl.hv y5),(.int .i64 y6),Gh,g,L,G,B,N,O,K,A,C,F,I,J,M,Q,U,V,Z,a,c,i,o,q,r,Kf,Kg,Kh,Ki,Kj,Kk,Kl,Km,Kn,Ko,Kp,Kq,Kr,Ks,Kt,Ku,Kv,Kw,Kx,Ky,Kz,Ma,Mb,Mc,Md,Me,Mf,Mg,Mh,Mi,Mj,Mk,Ml,Mm,Mn],[]⟩ S (RR (Sl.hv p.1) p.2) := by
 intro n
 induction n with
 | zero => intro _ _ _ _ _ _ _ _ _ _ _ _ _ _ _ _ _ _ _ _ _ _ _ _ _ _ _ _ _ _ _ _ _ _ _ _ _ _ _ _ _ _ _ _ _ _ _ _ _ _ _ _ _ _ _ _ _ _ _ _ _ _ _ _ _ _ _ _ h; cases h
 | succ n ih =>
  intro y0 y1 y5 y6 S p j m E Gh g L G B N O K A C F I J M Q U V Z a c i o q r Kf Kg Kh Ki Kj Kk Kl Km Kn Ko Kp Kq Kr Ks Kt Ku Kv Kw Kx Ky Kz Ma Mb Mc Md Me Mf Mg Mh Mi Mj Mk Ml Mm Mn h
  simp only [L0] at h
  obtain ⟨p1,hp1,h⟩ := bindo h
  refine Zxw (qQ rfl (qT rfl rfl rfl (uM 9 rfl rfl (uM 10 rfl rfl (uN 11 rfl rfl hp1 (uF 12 rfl Zzd (by decide) rfl rfl ?_))))))
  try dsimp only [w0,w1,w2,w3]
  obtain ⟨p2,hp2,h⟩ := bindo h
  refine uL 13 rfl sc30 rfl rfl (Zxl hp2) (qS 14 rfl (Zxh (q := Sl.a p2) (n := Sl.len p2) (z := Sl.cap p2) · rfl tu30 (.tmp rfl)) (uB 15 rfl rfl rfl rfl (rE ?_)))
  dsimp only [w0,w1,w2,w3]
  rcases ifc h with ⟨hc3,h⟩ | ⟨hc3,h⟩
  ·refine Zxb rfl (.tmp rfl) (decide_eq_true hc3) (Zxe rfl (qQ rfl (Zxm rfl (qT rfl rfl rfl (qS 7 rfl (Zxa · (.int _ _)) (rE ?_))))))
   dsimp only [w0,w1,w2,w3]
   refine Zxm rfl (Zx9 rfl ?_)
   try dsimp only [w0,w1,w2,w3]
   exact L1_snd ih h
  ·refine Zxc rfl (.tmp rfl) (decide_eq_false hc3) (Zya rfl rfl (qT rfl rfl rfl (uM 65 rfl rfl (uA 4 rfl rfl (rE ?_)))))
   cases h
   exact Zxk rfl at_.at_ rfl (res1 rfl rfl) ⟨rfl,rfl⟩
def f (k : Nat) (x0 : HP) (x1 : Int) (S : HS) : Option ((Sl) × HS) :=
 L0 k k x0 x1 Sl.nil 0 S
theorem snd {x0 : HP} {x1 : Int}  {p : (Sl) × HS} (h : f k x0 x1 S = some p) : HC b w e 17 [(.ptr x0),(.int .i64 x1)] S (RR (Sl.hv p.1) p.2) := by
 unfold f at h
 refine HCall.of_run at_.at_ body ?_
 show HR b w e 17 none [.code c0] ⟨[(.ptr x0),(.int .i64 x1),z,z,z,z,z,z,z,z,z,z,z,z,z,z,z,z,z,z,z,z,z,z,z,z,z,z,z,z,z,z,z,z,z,z,z,z,z,z,z,z,z,z,z,z,z,z,z,z,z,z,z,z,z,z,z,z,z,z,z,z,z,z,z,z],[]⟩ S _
 refine qT rfl rfl rfl (qS 4 rfl (Zxa · (.const fun _ => .slNil none)) (rE ?_))
 dsimp only [w0,w1,w2,w3]
 refine qT rfl rfl rfl (qS 5 rfl (Zxa · (.const fun _ => .slNil none)) (rE ?_))
 dsimp only [w0,w1,w2,w3]
 refine qQ rfl (qT rfl rfl rfl (qS 6 rfl (Zxa · (.int _ _)) (rE ?_)))
 dsimp only [w0,w1,w2,w3]
 refine Zxm rfl (Zx9 rfl ?_)
 try dsimp only [w0,w1,w2,w3]
 exact L0_snd  h
end Y13
namespace Y73
theorem at_ : FnAt Tryz.prog 26 Tryz.f26 := ⟨Tryz.func26,by kernel_rfl⟩
def d0 := (Tryz.f26.body).getD .skip
def r1 := kT d0
def r3 := kT (kB d0)
def r6 := kT (kY (kB d0))
def r9 := kT (kY (kY (kB d0)))
def r13 := kT (kW (kB d0))
def c0 : Code := .seq (.region 0 r1 false) (.seq (.region 1 r3 false) (.seq (.seq (.region 2 r6 false) (.cond (.tmp 15) (.seq (.region 3 r9 false) .ret) .skip)) (.seq (.region 4 r13 false) .ret)))
theorem body : Tryz.f26.body = some c0 := by kernel_rfl
def f (D : Dp) (H : Hd) (k : Nat) (x0 : HP) (x1 : Int) (S : HS) : Option ((Int × Bool × Bool × Bool) × HS) :=
 (letv (HS.new S (.cells 3 [[(.int .i64 0),(.bool false),(.bool false)]] true)) fun p1 =>
 ((Y18.f D H k x0 x1 p1).bind fun p2 =>
 (if (!p2.1.2) = true then
 ((p2.2.sets (HA.cell0 S.next) [(.int .i64 0),(.bool false),(.bool false)]).bind fun p4 =>
 ((p4.ldI .i64 (HA.fld (HA.cell0 S.next) 0)).bind fun p5 =>
 ((p4.ldB (HA.fld (HA.cell0 S.next) 1)).bind fun p6 =>
 ((p4.ldB (HA.fld (HA.cell0 S.next) 2)).bind fun p7 =>
 some ((p5,p6,p7,false),p4))))) else
 (x0.bind fun p8 =>
 ((p2.2.ldSl (HA.fld p8 2)).bind fun p9 =>
 ((p2.2.idx p9 p2.1.1 3).bind fun p10 =>
 ((p2.2.ldI .i64 (HA.fld p10 0)).bind fun p11 =>
 ((p2.2.ldB (HA.fld p10 1)).bind fun p12 =>
 ((p2.2.ldB (HA.fld p10 2)).bind fun p13 =>
 ((p2.2.sets (HA.cell0 S.next) [(.int .i64 p11),(.bool p12),(.bool p13)]).bind fun p14 =>
 ((p14.ldI .i64 (HA.fld (HA.cell0 S.next) 0)).bind fun p15 =>
 ((p14.ldB (HA.fld (HA.cell0 S.next) 1)).bind fun p16 =>
 ((p14.ldB (HA.fld (HA.cell0 S.next) 2)).bind fun p17 =>
 some ((p15,p16,p17,true),p14))))))))))))))
theorem snd {x0 : HP} {x1 : Int} (hD : DS b w D) (hH : HT b w e H) {p : (Int × Bool × Bool × Bool) × HS} (h : f D H k x0 x1 S = some p) : HC b w e 26 [(.ptr x0),(.int .i64 x1)] S (RR (.tup [(.agg [(.int .i64 p.1.1),(.bool p.1.2.1),(.bool p.1.2.2.1)]),(.bool p.1.2.2.2)]) p.2) := by
 unfold f at h
 refine HCall.of_run at_.at_ body ?_
 show HR b w e 26 none [.code c0] ⟨[(.ptr x0),(.int .i64 x1),z,z,z,z,z,z,z,z,z,z,z,z,z,z,z,z,z,z,z,z,z,z],[]⟩ S _
 obtain ⟨p1,hp1,h⟩ := leto h
 refine qT rfl rfl rfl (qS 4 rfl (Zyl · zi62 zr62 (by decide) rfl hp1) (qS 5 rfl (Zxa · (.bool _)) (rE ?_)))
 dsimp only [w0,w1,w2,w3]
 obtain ⟨p2,hp2,h⟩ := bindo h
 refine qT rfl rfl rfl (uM 9 rfl rfl (uM 10 rfl rfl (uQ 11 rfl (.func _) (ev2 rfl rfl) (HInv.static Y18.at_ Y18.body (Y18.snd hD hH hp2)) (uM 8 rfl rfl ?_))))
 try dsimp only [w0,w1,w2,w3]
 refine qS 12 rfl (Zxo · (.tmp rfl) rfl) (qS 13 rfl (Zxo · (.tmp rfl) rfl) (uA 6 rfl rfl (uA 7 rfl rfl (rE ?_))))
 dsimp only [w0,w1,w2,w3]
 refine qQ rfl (qT rfl rfl rfl (uM 14 rfl rfl (qS 15 rfl (Zys · (.tmp rfl)) (rE ?_))))
 dsimp only [w0,w1,w2,w3]
 rcases ifc h with ⟨hc3,h⟩ | ⟨hc3,h⟩
 ·obtain ⟨p4,hp4,h⟩ := bindo h
  refine Zxb rfl (.tmp rfl) hc3 (qT rfl rfl rfl (qS 16 rfl (Zyv (is := []) (xs := []) (r := [(.int .i64 0),(.bool false),(.bool false)]) st62 · rfl rfl Evs.nil rfl) (qN rfl (Zxq (v := (.agg [(.int .i64 0),(.bool false),(.bool false)])) · sz62 (.tmp rfl) rfl (.tmp rfl) rfl hp4) (qS 5 rfl (Zxa · (.bool _)) (rE ?_)))))
  dsimp only [w0,w1,w2,w3]
  obtain ⟨p5,hp5,p6,hp6,p7,hp7,h⟩ := bd3 h
  cases h
  exact Zxk rfl at_.at_ rfl (resL (rs := [.cell 4 62,.tmp 5]) rfl (.cons (.agg (vs := [(.int .i64 p5),(.bool p6),(.bool p7)]) rfl rfl ia62 ⟨Zxt hp5,Zyh hp6,Zyh hp7,trivial⟩ (by simp)) (.cons (.tmp rfl) .nil)) (by simp)) ⟨rfl,rfl⟩
 ·obtain ⟨p8,hp8,p9,hp9,h⟩ := bd2 h
  refine Zxc rfl (.tmp rfl) (bfalse hc3) (Zxe rfl (qT rfl rfl rfl (uM 17 rfl rfl (uN 18 rfl rfl hp8 (uF 19 rfl Zaai (by decide) rfl rfl (uL 20 rfl sc87 rfl rfl (Zxl hp9) ?_))))))
  try dsimp only [w0,w1,w2,w3]
  obtain ⟨p10,hp10,p11,hp11,p12,hp12,p13,hp13,h⟩ := bd4 h
  obtain ⟨p14,hp14,h⟩ := bindo h
  refine uM 21 rfl rfl (qS 22 rfl (oX (s := p9) · tu87 sz62 rfl rfl hp10) (qS 23 rfl (Zyz (vs := [(.int .i64 p11),(.bool p12),(.bool p13)]) · ia62 (.tmp rfl) rfl ⟨Zxt hp11,Zyh hp12,Zyh hp13,trivial⟩ (by simp)) (qN rfl (Zxq (v := (.agg [(.int .i64 p11),(.bool p12),(.bool p13)])) · sz62 (.tmp rfl) rfl (.tmp rfl) rfl hp14) ?_)))
  try dsimp only [w0,w1,w2,w3]
  refine qS 5 rfl (Zxa · (.bool _)) (rE ?_)
  dsimp only [w0,w1,w2,w3]
  obtain ⟨p15,hp15,p16,hp16,p17,hp17,h⟩ := bd3 h
  cases h
  exact Zxk rfl at_.at_ rfl (resL (rs := [.cell 4 62,.tmp 5]) rfl (.cons (.agg (vs := [(.int .i64 p15),(.bool p16),(.bool p17)]) rfl rfl ia62 ⟨Zxt hp15,Zyh hp16,Zyh hp17,trivial⟩ (by simp)) (.cons (.tmp rfl) .nil)) (by simp)) ⟨rfl,rfl⟩
end Y73
namespace Y4
theorem at_ : FnAt Tryz.prog 18 Tryz.f18 := ⟨Tryz.func18,by kernel_rfl⟩
def d0 := (Tryz.f18.body).getD .skip
def r1 := kT d0
def r4 := kT (kY d0)
def d5 := kZ (kB d0)
def r7 := kT (kA d5)
def r10 := kT (kY (kA d5))
def r12 := kT (kZ (kZ d5))
def r15 := kT (kY (kZ (kZ d5)))
def r19 := kT (kW d0)
def c8 : Code := .block 1 (.seq (.region 3 r10 false) (.seq (.region 4 r12 false) (.cond (.tmp 20) (.seq (.region 5 r15 false) .ret) .skip)))
def c7 : Code := .region 2 r7 false
def c0 : Code := .seq (.region 0 r1 false) (.seq (.seq (.region 1 r4 false) (.block 0 (.rangeFunc (.tmp 12) #[13] c7 c8))) (.seq (.region 6 r19 false) .ret))
theorem body : Tryz.f18.body = some c0 := by kernel_rfl
variable {y5 y6 y13 : HP}
def J0 (D : Dp) (H : Hd) (k : Nat) (l : Nat) (y5 : HP) (y6 : HP) (y13 : HP) (S : HS) : Option (HV × HS) :=
 ((S.begin_ l).bind fun p4 =>
 (y5.bind fun p5 =>
 ((p4.ldI .i64 p5).bind fun p6 =>
 ((Y73.f D H k y13 p6 p4).bind fun p7 =>
 (letv (HS.new p7.2 (.cells 3 [[(.int .i64 0),(.bool false),(.bool false)]] true)) fun p8 =>
 ((p8.sets (HA.cell0 p7.2.next) [(.int .i64 p7.1.1),(.bool p7.1.2.1),(.bool p7.1.2.2.1)]).bind fun p9 =>
 (if p7.1.2.2.2 = true then
 (y6.bind fun p11 =>
 ((p9.sets p11 [(.bool true)]).bind fun p12 =>
 (HS.endr p12 l (some .ret)))) else
 (HS.endr p9 l none))))))))
theorem J0_snd {l : Nat} (hD : DS b w D) (hH : HT b w e H) {p : HV × HS} (h : J0 D H k l y5 y6 y13 S = some p) : HR b w e 18 (some l) [.code c7,.beginRound,.code c8] ⟨[Ga,Gb,j,m,E,(.ptr y5),(.ptr y6),Gh,g,L,G,B,N,(.ptr y13),K,A,C,F,I,J,M],[]⟩ S (RR p.1 p.2) := by
 unfold J0 at h
 refine qR rfl rfl (uA 7 rfl rfl (rE ?_))
 dsimp only [w0,w1,w2,w3]
 obtain ⟨p4,hp4,h⟩ := bindo h
 refine Zabh hp4 ?_
 obtain ⟨p5,hp5,p6,hp6,p7,hp7,h⟩ := bd3 h
 refine Zxm rfl (qT rfl rfl rfl (uM 15 rfl rfl (uL 16 rfl sc3 rfl hp5 (Zxt hp6) (uQ 17 rfl (.func _) (ev2 rfl rfl) (HInv.static Y73.at_ Y73.body (Y73.snd hD hH hp7)) (uM 14 rfl rfl ?_)))))
 try dsimp only [w0,w1,w2,w3]
 obtain ⟨p8,hp8,h⟩ := leto h
 obtain ⟨p9,hp9,h⟩ := bindo h
 refine qS 18 rfl (Zxo · (.tmp rfl) rfl) (qS 19 rfl (Zxo · (.tmp rfl) rfl) (qS 8 rfl (Zyl · zi62 zr62 (by decide) rfl hp8) (qN rfl (Zxq (v := (.agg [(.int .i64 p7.1.1),(.bool p7.1.2.1),(.bool p7.1.2.2.1)])) · sz62 (.tmp rfl) rfl (.tmp rfl) rfl hp9) ?_)))
 try dsimp only [w0,w1,w2,w3]
 refine uA 9 rfl rfl (rE ?_)
 dsimp only [w0,w1,w2,w3]
 refine qT rfl rfl rfl (uM 20 rfl rfl (rE ?_))
 dsimp only [w0,w1,w2,w3]
 rcases ifc h with ⟨hc10,h⟩ | ⟨hc10,h⟩
 ·obtain ⟨p11,hp11,p12,hp12,h⟩ := bd2 h
  refine Zxb rfl (.tmp rfl) hc10 (qT rfl rfl rfl (qN rfl (Zxq (v := (.bool true)) · sz4 (.tmp rfl) hp11 (.bool _) rfl hp12) (rE ?_)))
  try dsimp only [w0,w1,w2,w3]
  exact Zaay rfl h ⟨rfl,rfl⟩
 ·refine Zxc rfl (.tmp rfl) (bfalse hc10) (Zxe rfl (Zxg ?_))
  exact Zzf h ⟨rfl,rfl⟩
def f (D : Dp) (H : Hd) (k : Nat) (x0 : HP) (x1 : Int) (x2 : Int) (S : HS) : Option ((Bool) × HS) :=
 (letv (HS.new S (.cells 1 [[(.int .i64 x2)]] true)) fun p1 =>
 (letv (HS.new p1 (.cells 1 [[(.bool false)]] true)) fun p2 =>
 ((Y25.f D H k x0 x1 p2).bind fun p3 =>
 ((D (Hd.set H (HS.next p3.2 + 1) fun vs T =>
 ((T.lp (HS.next p3.2 + 1)).bind fun u15 =>
 ((Zzn vs).bind fun ar13 =>
 ((dP ar13).bind fun p14 =>
 (J0 D H k (HS.next p3.2 + 1) (some (HA.cell0 S.next)) (some (HA.cell0 p1.next)) p14 T))))) p3.1 [.fn (.yield (HS.next p3.2 + 1)) [] []] (HS.new (HS.new p3.2 .defer) (.loop .ready none))).bind fun p16 =>
 ((p16.2.finish (HS.next p3.2 + 1)).bind fun p17 =>
 ((pcode p17.1).bind fun n18 =>
 (if n18 = 0 then
 ((p17.2.sets (HA.cell0 p1.next) [(.bool false)]).bind fun p20 =>
 ((p20.leave (HS.next p3.2 :: [])).bind fun p21 =>
 ((p21.ldB (HA.cell0 p1.next)).bind fun p22 =>
 some (p22,p21)))) else
 (if n18 = 1 then
 ((p17.2.leave (HS.next p3.2 :: [])).bind fun p24 =>
 ((p24.ldB (HA.cell0 p1.next)).bind fun p25 =>
 some (p25,p24))) else
 none))))))))
theorem snd {x0 : HP} {x1 : Int} {x2 : Int} (hD : DS b w D) (hH : HT b w e H) {p : (Bool) × HS} (h : f D H k x0 x1 x2 S = some p) : HC b w e 18 [(.ptr x0),(.int .i64 x1),(.int .i64 x2)] S (RR (.bool p.1) p.2) := by
 unfold f at h
 refine HCall.of_run at_.at_ body ?_
 show HR b w e 18 none [.code c0] ⟨[(.ptr x0),(.int .i64 x1),(.int .i64 x2),z,z,z,z,z,z,z,z,z,z,z,z,z,z,z,z,z,z],[]⟩ S _
 obtain ⟨p1,hp1,h⟩ := leto h
 obtain ⟨p2,hp2,h⟩ := leto h
 refine qT rfl rfl rfl (qS 5 rfl (Zyk · (.tmp rfl) (Yav _) rfl hp1) (qS 6 rfl (Zyl · zi4 zr4 (by decide) rfl hp2) (rE ?_)))
 dsimp only [w0,w1,w2,w3]
 obtain ⟨p3,hp3,h⟩ := bindo h
 refine qQ rfl (qT rfl rfl rfl (uM 10 rfl rfl (uM 11 rfl rfl (uQ 12 rfl (.func _) (ev2 rfl rfl) (HInv.static Y25.at_ Y25.body (Y25.snd hD hH hp3)) (rE ?_)))))
 dsimp only [w0,w1,w2,w3]
 obtain ⟨p16,hp16,p17,hp17,h⟩ := bd2 h
 obtain ⟨n18,hn18,h⟩ := bindo h
 refine Zxm rfl ?_
 refine Zab2 (D := D) (H := H) rfl (.tmp rfl) hD hH hp16 hp17 ?_ ?_
 ·intro β1 hle hLA vs T u T' hr
  obtain ⟨u15,hu15,hr⟩ := bindo hr
  obtain ⟨ar13,har13,hr⟩ := bindo hr
  obtain ⟨p14,hp14,hr⟩ := bindo hr
  rw [Zzh har13]
  refine Zaak hLA hu15 rfl rfl ?_
  rw [Zy4 hp14]
  simp only [HAct.params,List.set_cons_zero,List.set_cons_succ]
  exact J0_snd hD (hH.up hle) hr
 ·rcases ifc h with ⟨hc19,h⟩ | ⟨hc19,h⟩
  ·rw [Zacz hn18 hc19]
   simp only [Zyw,Zyx]
   obtain ⟨p20,hp20,h⟩ := bindo h
   refine Zxg (qT rfl rfl rfl (qN rfl (Zxq (v := (.bool false)) · sz4 (.tmp rfl) rfl (.bool _) rfl hp20) (rE ?_)))
   try dsimp only [w0,w1,w2,w3]
   obtain ⟨p21,hp21,p22,hp22,h⟩ := bd2 h
   cases h
   exact Zxk rfl at_.at_ hp21 (resL1 rfl (.cell rfl rfl sc4 (Zyh hp22))) ⟨rfl,rfl⟩
  ·rcases ifc h with ⟨hc23,h⟩ | ⟨hc23,h⟩
   ·rw [Zah9 hn18 hc23]
    simp only [Zyw,Zyx]
    obtain ⟨p24,hp24,p25,hp25,h⟩ := bd2 h
    cases h
    exact Zxk rfl at_.at_ hp24 (resL1 rfl (.cell rfl rfl sc4 (Zyh hp25))) ⟨rfl,rfl⟩
   ·cases h
end Y4
namespace Y44
theorem at_ : FnAt Tryz.prog 19 Tryz.f19 := ⟨Tryz.func19,by kernel_rfl⟩
def d0 := (Tryz.f19.body).getD .skip
def r1 := kT d0
def r4 := kT (kY d0)
def d5 := kZ (kB d0)
def r9 := kT (kX (kA d5))
def d15 := kX (kZ (kA d5))
def r16 := kT d15
def r19 := kT (kY d15)
def r22 := kR (kW (kX d5))
def r24 := kT (kW d0)
def c23 : Code := .seq (.region 6 r24 false) .ret
def c22 : Code := .region 3 r22 false
def c17 : Code := .cond (.tmp 38) (.seq (.region 5 r19 false) .ret) .skip
def c7 : Code := .seq (.seq (.region 2 r9 false) (.cond (.tmp 14) .skip (.exit 0))) (.seq (.block 1 (.seq (.region 4 r16 false) c17)) c22)
def c0 : Code := .seq (.region 0 r1 false) (.seq (.seq (.region 1 r4 false) (.block 0 (.loop c7))) c23)
theorem body : Tryz.f19.body = some c0 := by kernel_rfl
variable {y0 : HP} {y1 y2 y7 : Int} {y38 : Bool}
def J1 (k : Nat) (rec0 : HP → Int → Int → Int → HS → Option ((Bool) × HS)) (y0 : HP) (y1 : Int) (y2 : Int) (y7 : Int) (y38 : Bool) (S : HS) : Option ((Bool) × HS) :=
 (if y38 = true then
 some (true,S) else
 rec0 y0 y1 y2 (w64 (y7 + 1)) S)
theorem J1_snd {rec0 : HP → Int → Int → Int → HS → Option ((Bool) × HS)} (hrec0 : ∀ ⦃y0 : HP⦄ ⦃y1 : Int⦄ ⦃y2 : Int⦄ ⦃y7 : Int⦄ ⦃S : HS⦄ ⦃p : (Bool) × HS⦄ ⦃m E Gf d g L G B N O K A C F I J M Q U V Z a c i o q r Kf Kg Kh Ki Kj Kk Kl Km : HV⦄,rec0 y0 y1 y2 y7 S = some p → HR b w e 19 none [.inLoop c7,.inBlock 0,.code c23] ⟨[(.ptr y0),(.int .i64 y1),(.int .i64 y2),m,E,Gf,d,(.int .i64 y7),g,L,G,B,N,O,K,A,C,F,I,J,M,Q,U,V,Z,a,c,i,o,q,r,Kf,Kg,Kh,Ki,Kj,Kk,Kl,Km],[]⟩ S (RR (.bool p.1) p.2)) {p : (Bool) × HS} (h : J1 k rec0 y0 y1 y2 y7 y38 S = some p) : HR b w e 19 none [.code c17,.inBlock 1,.code c22,.inLoop c7,.inBlock 0,.code c23] ⟨[(.ptr y0),(.int .i64 y1),(.int .i64 y2),m,E,Gf,d,(.int .i64 y7),g,L,G,B,N,O,K,A,C,F,I,J,M,Q,U,V,Z,a,c,i,o,q,r,Kf,Kg,Kh,Ki,Kj,Kk,Kl,(.bool y38)],[]⟩ S (RR (.bool p.1) p.2) := by
 unfold J1 at h
 rcases ifc h with ⟨hc15,h⟩ | ⟨hc15,h⟩
 ·refine Zxb rfl (.tmp rfl) hc15 (qT rfl rfl rfl (qS 6 rfl (Zxa · (.bool _)) (rE ?_)))
  cases h
  exact Zxk rfl at_.at_ rfl (res1 rfl rfl) ⟨rfl,rfl⟩
 ·refine Zxc rfl (.tmp rfl) (bfalse hc15) (Zxe rfl (Zxg (qR rfl rfl (uM 15 rfl rfl (uC 16 rfl rfl rfl (uA 7 rfl rfl (rE ?_)))))))
  dsimp only [w0,w1,w2,w3]
  exact hrec0 h
def L0 (k : Nat) : Nat → HP → Int → Int → Int → HS → Option ((Bool) × HS)
 | 0,_,_,_,_,_ => none
 | n + 1,y0,y1,y2,y7,S =>
  (y0.bind fun p1 =>
  ((S.ldSl (HA.fld p1 3)).bind fun p2 =>
  (if y7 < (Sl.len p2 : Int) then
  (y0.bind fun p4 =>
  ((S.ldSl (HA.fld p4 3)).bind fun p5 =>
  ((S.idx p5 y7 1).bind fun p6 =>
  ((S.ldP p6).bind fun p7 =>
  ((Y0.f k p7 y1 S).bind fun p8 =>
  (if p8.1 ≥ 0 then
  (y0.bind fun p10 =>
  ((p8.2.ldSl (HA.fld p10 3)).bind fun p11 =>
  ((p8.2.idx p11 y7 1).bind fun p12 =>
  ((p8.2.ldP p12).bind fun p13 =>
  ((Y0.f k p13 y2 p8.2).bind fun p14 =>
  J1 k (L0 k n) y0 y1 y2 y7 (decide (p14.1 ≥ 0)) p14.2))))) else
  J1 k (L0 k n) y0 y1 y2 y7 false p8.2)))))) else
  some (false,S))))
theorem L0_snd  : ∀ {n : Nat} ⦃y0 : HP⦄ ⦃y1 : Int⦄ ⦃y2 : Int⦄ ⦃y7 : Int⦄ ⦃S : HS⦄ ⦃p : (Bool) × HS⦄ ⦃m E Gf d g L G B N O K A C F I J M Q U V Z a c i o q r Kf Kg Kh Ki Kj Kk Kl Km : HV⦄,L0 k n y0 y1 y2 y7 S = some p → HR b w e 19 none [.inLoop c7,.inBlock 0,.code c23] ⟨[(.ptr y0),(.int .i64 y1),(.int .i64 y2),m,E,Gf,d,(.int .i64 y7),g,L,G,B,N,O,K,A,C,F,I,J,M,Q,U,V,Z,a,c,i,o,q,r,Kf,Kg,Kh,Ki,Kj,Kk,Kl,Km],[]⟩ S (RR (.bool p.1) p.2) := by
 intro n
 induction n with
 | zero => intro _ _ _ _ _ _ _ _ _ _ _ _ _ _ _ _ _ _ _ _ _ _ _ _ _ _ _ _ _ _ _ _ _ _ _ _ _ _ _ _ _ h; cases h
 | succ n ih =>
  intro y0 y1 y2 y7 S p m E Gf d g L G B N O K A C F I J M Q U V Z a c i o q r Kf Kg Kh Ki Kj Kk Kl Km h
  simp only [L0] at h
  obtain ⟨p1,hp1,h⟩ := bindo h
  refine Zxw (qQ rfl (qT rfl rfl rfl (uM 8 rfl rfl (uM 9 rfl rfl (uN 10 rfl rfl hp1 (uF 11 rfl Zzd (by decide) rfl rfl ?_))))))
  try dsimp only [w0,w1,w2,w3]
  obtain ⟨p2,hp2,h⟩ := bindo h
  refine uL 12 rfl sc30 rfl rfl (Zxl hp2) (qS 13 rfl (Zxh (q := Sl.a p2) (n := Sl.len p2) (z := Sl.cap p2) · rfl tu30 (.tmp rfl)) (uB 14 rfl rfl rfl rfl (rE ?_)))
  dsimp only [w0,w1,w2,w3]
  rcases ifc h with ⟨hc3,h⟩ | ⟨hc3,h⟩
  ·obtain ⟨p4,hp4,p5,hp5,h⟩ := bd2 h
   refine Zxb rfl (.tmp rfl) (decide_eq_true hc3) (Zxe rfl (qQ rfl (Zxm rfl (qT rfl rfl rfl (uM 17 rfl rfl (uN 18 rfl rfl hp4 (uF 19 rfl Zzd (by decide) rfl rfl (uL 20 rfl sc30 rfl rfl (Zxl hp5) ?_))))))))
   try dsimp only [w0,w1,w2,w3]
   obtain ⟨p6,hp6,p7,hp7,h⟩ := bd2 h
   refine uM 21 rfl rfl (qS 22 rfl (oX (s := p5) · tu30 sz39 rfl rfl hp6) (uL 23 rfl sc39 rfl rfl (Zx5 hp7) (uM 24 rfl rfl ?_)))
   try dsimp only [w0,w1,w2,w3]
   obtain ⟨p8,hp8,h⟩ := bindo h
   refine uQ 25 rfl (.func _) (ev2 rfl rfl) (HInv.static Y0.at_ Y0.body (Y0.snd  hp8)) (uC 26 rfl rfl rfl (uM 27 rfl rfl ?_))
   rcases ifc h with ⟨hc9,h⟩ | ⟨hc9,h⟩
   ·refine qG 27 28 rfl (decide_eq_true hc9) (oM · rfl) ?_
    try dsimp only [w0,w1,w2,w3]
    obtain ⟨p10,hp10,p11,hp11,h⟩ := bd2 h
    refine qG 27 29 rfl (decide_eq_true hc9) (oN · rfl hp10) (qG 27 30 rfl (decide_eq_true hc9) (oF · Zzd (by decide) rfl rfl) (qG 27 31 rfl (decide_eq_true hc9) (oL · sc30 rfl rfl (Zxl hp11)) (qG 27 32 rfl (decide_eq_true hc9) (oM · rfl) ?_)))
    try dsimp only [w0,w1,w2,w3]
    obtain ⟨p12,hp12,p13,hp13,p14,hp14,h⟩ := bd3 h
    refine qG 27 33 rfl (decide_eq_true hc9) (oX (s := p11) · tu30 sz39 rfl rfl hp12) (qG 27 34 rfl (decide_eq_true hc9) (oL · sc39 rfl rfl (Zx5 hp13)) (qG 27 35 rfl (decide_eq_true hc9) (oM · rfl) (Zx6 (t := 27) (dst := some 36) rfl rfl rfl (decide_eq_true hc9) (.func _) (ev2 rfl rfl) (HInv.static Y0.at_ Y0.body (Y0.snd  hp14)) ?_)))
    rintro _ _ ⟨rfl,rfl⟩
    try dsimp only [w0,w1,w2,w3]
    refine qG 27 37 rfl (decide_eq_true hc9) (oC · rfl rfl) (qS 38 rfl (Zxp · (.tmp rfl) (decide_eq_true hc9) (.tmp rfl)) (rE ?_))
    dsimp only [w0,w1,w2,w3]
    exact J1_snd ih h
   ·refine Zxf (dst := some 28) (t := 27) rfl rfl rfl (decide_eq_false hc9) ?_
    try dsimp only [w0,w1,w2,w3]
    refine Zxf (dst := some 29) (t := 27) rfl rfl rfl (decide_eq_false hc9) (Zxf (dst := some 30) (t := 27) rfl rfl rfl (decide_eq_false hc9) (Zxf (dst := some 31) (t := 27) rfl rfl rfl (decide_eq_false hc9) (Zxf (dst := some 32) (t := 27) rfl rfl rfl (decide_eq_false hc9) ?_)))
    try dsimp only [w0,w1,w2,w3]
    refine Zxf (dst := some 33) (t := 27) rfl rfl rfl (decide_eq_false hc9) (Zxf (dst := some 34) (t := 27) rfl rfl rfl (decide_eq_false hc9) (Zxf (dst := some 35) (t := 27) rfl rfl rfl (decide_eq_false hc9) (Zxf (dst := some 36) (t := 27) rfl rfl rfl (decide_eq_false hc9) ?_)))
    try dsimp only [w0,w1,w2,w3]
    refine Zxf (dst := some 37) (t := 27) rfl rfl rfl (decide_eq_false hc9) (qS 38 rfl (Zxn · (.tmp rfl) (decide_eq_false hc9) (.bool _)) (rE ?_))
    dsimp only [w0,w1,w2,w3]
    exact J1_snd ih h
  ·refine Zxc rfl (.tmp rfl) (decide_eq_false hc3) (Zya rfl rfl (qT rfl rfl rfl (qS 6 rfl (Zxa · (.bool _)) (rE ?_))))
   cases h
   exact Zxk rfl at_.at_ rfl (res1 rfl rfl) ⟨rfl,rfl⟩
def f (k : Nat) (x0 : HP) (x1 : Int) (x2 : Int) (S : HS) : Option ((Bool) × HS) :=
 L0 k k x0 x1 x2 0 S
theorem snd {x0 : HP} {x1 : Int} {x2 : Int}  {p : (Bool) × HS} (h : f k x0 x1 x2 S = some p) : HC b w e 19 [(.ptr x0),(.int .i64 x1),(.int .i64 x2)] S (RR (.bool p.1) p.2) := by
 unfold f at h
 refine HCall.of_run at_.at_ body ?_
 show HR b w e 19 none [.code c0] ⟨[(.ptr x0),(.int .i64 x1),(.int .i64 x2),z,z,z,z,z,z,z,z,z,z,z,z,z,z,z,z,z,z,z,z,z,z,z,z,z,z,z,z,z,z,z,z,z,z,z,z],[]⟩ S _
 refine qT rfl rfl rfl (qS 6 rfl (Zxa · (.bool _)) (rE ?_))
 dsimp only [w0,w1,w2,w3]
 refine qQ rfl (qT rfl rfl rfl (qS 7 rfl (Zxa · (.int _ _)) (rE ?_)))
 dsimp only [w0,w1,w2,w3]
 refine Zxm rfl (Zx9 rfl ?_)
 try dsimp only [w0,w1,w2,w3]
 exact L0_snd  h
end Y44
def Zaan (D : Dp) (H : Hd) (k : Nat) (vs : List HV) (S : HS) : Option (HV × HS) :=
 Option.bind (Zaa6 vs) fun a =>
 Option.bind (dA2 a.1) fun p0 =>
 Option.bind (dS p0.1) fun p1 =>
 Option.bind (dP p0.2) fun p2 =>
 Option.bind (dS a.2) fun p3 =>
 Option.bind (Y102.f k p1 p2 p3 S) fun q =>
 some ((.int .i64 q.1),q.2)
theorem Zae4 (hD : DS b w D) (hH : HT b w e H) {vs : List HV} {p : HV × HS} (h : Zaan D H k vs S = some p) : HC b w e 103 vs S (fun v1 S1 => v1 = p.1 ∧ S1 = p.2) := by
 unfold Zaan at h
 obtain ⟨a,ha,h⟩ := bindo h
 obtain ⟨p0,hp0,p1,hp1,p2,hp2,p3,hp3,h⟩ := bd4 h
 obtain ⟨q,hq,h⟩ := bindo h
 rw [Zzw ha,dA2_out hp0,Zagb hp1,Zy4 hp2,Zagb hp3]
 cases h
 exact Y102.snd hq
def Zabi (D : Dp) (H : Hd) (k : Nat) (vs : List HV) (S : HS) : Option (HV × HS) :=
 Option.bind (Zaa6 vs) fun a =>
 Option.bind (dA3 a.1) fun p0 =>
 Option.bind (dI .i64 p0.1) fun p1 =>
 Option.bind (dB p0.2.1) fun p2 =>
 Option.bind (dB p0.2.2) fun p3 =>
 Option.bind (dI .i64 a.2) fun p4 =>
 Option.bind (Y104.f p1 p2 p3 p4 S) fun q =>
 some ((.int .i64 q.1),q.2)
theorem Zaf1 (hD : DS b w D) (hH : HT b w e H) {vs : List HV} {p : HV × HS} (h : Zabi D H k vs S = some p) : HC b w e 97 vs S (fun v1 S1 => v1 = p.1 ∧ S1 = p.2) := by
 unfold Zabi at h
 obtain ⟨a,ha,h⟩ := bindo h
 obtain ⟨p0,hp0,p1,hp1,p2,hp2,p3,hp3,h⟩ := bd4 h
 obtain ⟨p4,hp4,h⟩ := bindo h
 obtain ⟨q,hq,h⟩ := bindo h
 rw [Zzw ha,Zaib hp0,Zaas hp1,Zaar hp2,Zaar hp3,Zaas hp4]
 cases h
 exact Y104.snd hq
def Zaao (D : Dp) (H : Hd) (k : Nat) (vs : List HV) (S : HS) : Option (HV × HS) :=
 Option.bind (Zaa6 vs) fun a =>
 Option.bind (dF a.1) fun p0 =>
 Option.bind (dP a.2) fun p1 =>
 Option.bind (Y66.f D H k p0 p1 S) fun q =>
 some (.tup [],q.2)
theorem Zae5 (hD : DS b w D) (hH : HT b w e H) {vs : List HV} {p : HV × HS} (h : Zaao D H k vs S = some p) : HC b w e 130 vs S (fun v1 S1 => v1 = p.1 ∧ S1 = p.2) := by
 unfold Zaao at h
 obtain ⟨a,ha,h⟩ := bindo h
 obtain ⟨p0,hp0,p1,hp1,h⟩ := bd2 h
 obtain ⟨q,hq,h⟩ := bindo h
 rw [Zzw ha,Zabl hp0,Zy4 hp1]
 cases h
 exact Y66.snd hD hH hq
def Zad2 (D : Dp) (H : Hd) (k : Nat) (vs : List HV) (S : HS) : Option (HV × HS) :=
 Option.bind (Zzn vs) fun a =>
 Option.bind (dF a) fun p0 =>
 Option.bind (Y110.f p0) fun q =>
 some (.tup [],S)
theorem Zaf2 (hD : DS b w D) (hH : HT b w e H) {vs : List HV} {p : HV × HS} (h : Zad2 D H k vs S = some p) : HC b w e 93 vs S (fun v1 S1 => v1 = p.1 ∧ S1 = p.2) := by
 unfold Zad2 at h
 obtain ⟨a,ha,h⟩ := bindo h
 obtain ⟨p0,hp0,h⟩ := bindo h
 obtain ⟨q,hq,h⟩ := bindo h
 rw [Zzh ha,Zabl hp0]
 cases h
 exact Y110.snd hq
def Zabj (D : Dp) (H : Hd) (k : Nat) (vs : List HV) (S : HS) : Option (HV × HS) :=
 Option.bind (Zaa6 vs) fun a =>
 Option.bind (dF a.1) fun p0 =>
 Option.bind (dP a.2) fun p1 =>
 Option.bind (Y69.f D H k p0 p1 S) fun q =>
 some (.tup [],q.2)
theorem Zaf3 (hD : DS b w D) (hH : HT b w e H) {vs : List HV} {p : HV × HS} (h : Zabj D H k vs S = some p) : HC b w e 63 vs S (fun v1 S1 => v1 = p.1 ∧ S1 = p.2) := by
 unfold Zabj at h
 obtain ⟨a,ha,h⟩ := bindo h
 obtain ⟨p0,hp0,p1,hp1,h⟩ := bd2 h
 obtain ⟨q,hq,h⟩ := bindo h
 rw [Zzw ha,Zabl hp0,Zy4 hp1]
 cases h
 exact Y69.snd hD hH hq
def Zaap (D : Dp) (H : Hd) (k : Nat) (vs : List HV) (S : HS) : Option (HV × HS) :=
 Option.bind (Zaa6 vs) fun a =>
 Option.bind (dF a.1) fun p0 =>
 Option.bind (dP a.2) fun p1 =>
 Option.bind (Y62.f D H k p0 p1 S) fun q =>
 some (.tup [],q.2)
theorem Zae6 (hD : DS b w D) (hH : HT b w e H) {vs : List HV} {p : HV × HS} (h : Zaap D H k vs S = some p) : HC b w e 113 vs S (fun v1 S1 => v1 = p.1 ∧ S1 = p.2) := by
 unfold Zaap at h
 obtain ⟨a,ha,h⟩ := bindo h
 obtain ⟨p0,hp0,p1,hp1,h⟩ := bd2 h
 obtain ⟨q,hq,h⟩ := bindo h
 rw [Zzw ha,Zabl hp0,Zy4 hp1]
 cases h
 exact Y62.snd hD hH hq
def Zad3 (D : Dp) (H : Hd) (k : Nat) (vs : List HV) (S : HS) : Option (HV × HS) :=
 Option.bind (Zzn vs) fun a =>
 Option.bind (dF a) fun p0 =>
 Option.bind (Y112.f p0) fun q =>
 some (.tup [],S)
theorem Zaf4 (hD : DS b w D) (hH : HT b w e H) {vs : List HV} {p : HV × HS} (h : Zad3 D H k vs S = some p) : HC b w e 81 vs S (fun v1 S1 => v1 = p.1 ∧ S1 = p.2) := by
 unfold Zad3 at h
 obtain ⟨a,ha,h⟩ := bindo h
 obtain ⟨p0,hp0,h⟩ := bindo h
 obtain ⟨q,hq,h⟩ := bindo h
 rw [Zzh ha,Zabl hp0]
 cases h
 exact Y112.snd hq
def Zabk (D : Dp) (H : Hd) (k : Nat) (vs : List HV) (S : HS) : Option (HV × HS) :=
 Option.bind (Zaa6 vs) fun a =>
 Option.bind (dF a.1) fun p0 =>
 Option.bind (dP a.2) fun p1 =>
 Option.bind (Y2.f D H k p0 p1 S) fun q =>
 some (.tup [],q.2)
theorem Zaf5 (hD : DS b w D) (hH : HT b w e H) {vs : List HV} {p : HV × HS} (h : Zabk D H k vs S = some p) : HC b w e 88 vs S (fun v1 S1 => v1 = p.1 ∧ S1 = p.2) := by
 unfold Zabk at h
 obtain ⟨a,ha,h⟩ := bindo h
 obtain ⟨p0,hp0,p1,hp1,h⟩ := bd2 h
 obtain ⟨q,hq,h⟩ := bindo h
 rw [Zzw ha,Zabl hp0,Zy4 hp1]
 cases h
 exact Y2.snd hD hH hq
def Zack (D : Dp) (H : Hd) (k : Nat) (vs : List HV) (S : HS) : Option (HV × HS) :=
 Option.bind (args3 vs) fun a =>
 Option.bind (dF a.1) fun p0 =>
 Option.bind (dP a.2.1) fun p1 =>
 Option.bind (dP a.2.2) fun p2 =>
 Option.bind (Y30.f D H p0 p1 p2 S) fun q =>
 some (.tup [],q.2)
theorem Zaf6 (hD : DS b w D) (hH : HT b w e H) {vs : List HV} {p : HV × HS} (h : Zack D H k vs S = some p) : HC b w e 86 vs S (fun v1 S1 => v1 = p.1 ∧ S1 = p.2) := by
 unfold Zack at h
 obtain ⟨a,ha,h⟩ := bindo h
 obtain ⟨p0,hp0,p1,hp1,p2,hp2,h⟩ := bd3 h
 obtain ⟨q,hq,h⟩ := bindo h
 rw [Zaia ha,Zabl hp0,Zy4 hp1,Zy4 hp2]
 cases h
 exact Y30.snd hD hH hq
def disp (k : Nat) : Nat → Dp
 | 0 => fun _ _ _ _ => none
 | n + 1 => fun H fv vs S => match fv with
  | .fn (.yield l) [] [] => Option.bind (H l) fun r => r vs S
  | .fn (.func f) xs ys => if f = 103 then Zaan (disp k n) H k (xs ++ vs ++ ys) S else if f = 97 then Zabi (disp k n) H k (xs ++ vs ++ ys) S else if f = 130 then Zaao (disp k n) H k (xs ++ vs ++ ys) S else if f = 93 then Zad2 (disp k n) H k (xs ++ vs ++ ys) S else if f = 63 then Zabj (disp k n) H k (xs ++ vs ++ ys) S else if f = 113 then Zaap (disp k n) H k (xs ++ vs ++ ys) S else if f = 81 then Zad3 (disp k n) H k (xs ++ vs ++ ys) S else if f = 88 then Zabk (disp k n) H k (xs ++ vs ++ ys) S else if f = 86 then Zack (disp k n) H k (xs ++ vs ++ ys) S else none
  | _ => none
theorem Zzq {k n : Nat} {H : Hd} {f : Nat} {xs ys vs : List HV} : disp k (n + 1) H (.fn (.func f) xs ys) vs S = (if f = 103 then Zaan (disp k n) H k (xs ++ vs ++ ys) S else if f = 97 then Zabi (disp k n) H k (xs ++ vs ++ ys) S else if f = 130 then Zaao (disp k n) H k (xs ++ vs ++ ys) S else if f = 93 then Zad2 (disp k n) H k (xs ++ vs ++ ys) S else if f = 63 then Zabj (disp k n) H k (xs ++ vs ++ ys) S else if f = 113 then Zaap (disp k n) H k (xs ++ vs ++ ys) S else if f = 81 then Zad3 (disp k n) H k (xs ++ vs ++ ys) S else if f = 88 then Zabk (disp k n) H k (xs ++ vs ++ ys) S else if f = 86 then Zack (disp k n) H k (xs ++ vs ++ ys) S else none) := rfl
theorem Zzx {k n : Nat} {H : Hd} {l : Nat} {vs : List HV} : disp k (n + 1) H (.fn (.yield l) [] []) vs S = Option.bind (H l) fun r => r vs S := rfl
theorem Zags : ∀ n,DSound Tryz.prog b w (disp k n) := by
 intro n
 induction n with
 | zero => intro _ _ _ _ _ _ _ _ h; cases h
 | succ n ih =>
  intro e H hH fv vs S v S' h
  unfold disp at h
  split at h
  ·obtain ⟨r,hr,h⟩ := bindo h
   exact hH _ _ hr _ _ _ _ h
  ·skip
   rcases ifc h with ⟨hf,h⟩ | ⟨hf,h⟩
   ·subst hf; exact HInv.func Y102.at_ Y102.body (Zae4 (k := k) ih hH h)
   rcases ifc h with ⟨hf,h⟩ | ⟨hf,h⟩
   ·subst hf; exact HInv.func Y104.at_ Y104.body (Zaf1 (k := k) ih hH h)
   rcases ifc h with ⟨hf,h⟩ | ⟨hf,h⟩
   ·subst hf; exact HInv.func Y66.at_ Y66.body (Zae5 (k := k) ih hH h)
   rcases ifc h with ⟨hf,h⟩ | ⟨hf,h⟩
   ·subst hf; exact HInv.func Y110.at_ Y110.body (Zaf2 (k := k) ih hH h)
   rcases ifc h with ⟨hf,h⟩ | ⟨hf,h⟩
   ·subst hf; exact HInv.func Y69.at_ Y69.body (Zaf3 (k := k) ih hH h)
   rcases ifc h with ⟨hf,h⟩ | ⟨hf,h⟩
   ·subst hf; exact HInv.func Y62.at_ Y62.body (Zae6 (k := k) ih hH h)
   rcases ifc h with ⟨hf,h⟩ | ⟨hf,h⟩
   ·subst hf; exact HInv.func Y112.at_ Y112.body (Zaf4 (k := k) ih hH h)
   rcases ifc h with ⟨hf,h⟩ | ⟨hf,h⟩
   ·subst hf; exact HInv.func Y2.at_ Y2.body (Zaf5 (k := k) ih hH h)
   rcases ifc h with ⟨hf,h⟩ | ⟨hf,h⟩
   ·subst hf; exact HInv.func Y30.at_ Y30.body (Zaf6 (k := k) ih hH h)
   cases h
  ·cases h
end
noncomputable section
variable {b : Nat} {w : World} {e : Bt}
variable {S : HS} {D : Dp} {H : Hd} {k : Nat} {Ga Gb j m E Gf d Gh g L G B N O K A C F I J M Q U V Z a c i o q r Kf Kg Kh Ki Kj Kk Kl Km Kn Ko Kp Kq Kr Ks Kt Ku Kv Kw Kx Ky Kz Ma Mb Mc Md Me Mf Mg Mh Mi Mj Mk Ml Mm Mn Mo Mp Mq Mr Ms Mt Mu Mv Mw Mx My Mz Na Nb Nc Nd Ne Nf Ng Nh Ni Nj Nk Nl Nm Nn No Np Nq Nr Ns Nt Nu Nv Nw Nx Ny Nz Qa Qb Qc Qd Qe Qf Qg Qh Qi Qj Qk Ql Qm Qn Qo Qp Qq Qr Qs Qt Qu Qv Qw Qx Qy Qz Ua Ub : HV}
theorem A0 : (Y90.f (disp 2000 60) (fun _ => none) 2000 S0).map (fun p => p.1) = some true := by kernel_rfl
namespace aw
def f (S : HS) : Option (Bool × HS) := some (true,S)
theorem snd {b : Nat} {w : World} {e : Bt} {p : Bool × HS} (h : f S = some p) : HC b w e 7 [] S (RR (.bool p.1) p.2) := by
 unfold f at h
 cases h
 refine HCall.of_calls (v := .bool true) fun β w args' _ ha => ⟨.bool true,.bool true,?_⟩
 have h0 : args' = #[] := by have := ha.1; simpa using this.symm
 subst h0
 cases hA : Y90.f (disp 2000 60) (fun _ => none) 2000 S0 with
 | none => have := A0; rw [hA] at this; cases this
 | some q =>
  have h1 : q.1 = true := by have := A0; rw [hA] at this; simpa using this
  have hc := Y90.snd (b := w.heap.size) (w := w) (e := B0) (Zags 60) (fun _ _ h => by cases h) hA
  rw [h1] at hc
  refine HCall.calls hc (rel0 w) (VRels.nil B0) fun v S1 g => g.1
end aw
namespace Y14
theorem at_ : FnAt Tryz.prog 3 Tryz.f3 := ⟨Tryz.func3,by kernel_rfl⟩
def d0 := (Tryz.f3.body).getD .skip
def r1 := kT d0
def r4 := kT (kY d0)
def r7 := kT (kY (kY d0))
def r12 := kT (kY (kB d0))
def r15 := kT (kY (kY (kB d0)))
def d18 := kW (kB d0)
def r19 := kT d18
def r21 := kT (kB d18)
def d23 := kY (kB d18)
def r24 := kT d23
def d27 := kX (kB d23)
def r29 := kT (kA d27)
def d35 := kX (kB d27)
def r36 := kT d35
def r39 := kT (kY d35)
def r40 := kR (kZ (kB d35))
def r42 := kT (kW d35)
def r43 := kR (kW (kB d35))
def r44 := kR (kW d27)
def r46 := kT (kW (kB d18))
def r48 := kT (kW (kW d18))
def c49 : Code := .ret
def c45 : Code := .seq (.region 15 r46 false) (.seq (.region 16 r48 false) c49)
def c44 : Code := .region 9 r44 false
def c27 : Code := .seq (.seq (.region 8 r29 false) (.cond (.tmp 23) .skip (.exit 0))) (.seq (.block 1 (.seq (.region 10 r36 false) (.cond (.tmp 31) (.seq (.region 11 r39 true) (.region 12 r40 true)) (.seq (.region 13 r42 true) (.region 14 r43 true))))) c44)
def c0 : Code := .seq (.region 0 r1 false) (.seq (.seq (.region 1 r4 false) (.cond (.tmp 13) (.seq (.region 2 r7 false) .ret) .skip)) (.seq (.seq (.region 3 r12 false) (.cond (.tmp 15) (.seq (.region 4 r15 false) .ret) .skip)) (.seq (.region 5 r19 false) (.seq (.region 6 r21 false) (.seq (.seq (.region 7 r24 false) (.block 0 (.loop c27))) c45)))))
theorem body : Tryz.f3.body = some c0 := by kernel_rfl
variable {y0 y10 : Sl} {y1 y2 y9 : Int} {y7 y8 : HP} {y94 y105 y116 y117 y130 y131 : Bool}
def J1 (D : Dp) (H : Hd) (k : Nat) (rec0 : Sl → Int → Int → HP → HP → Int → HS → Option ((Bool) × HS)) (y0 : Sl) (y1 : Int) (y2 : Int) (y7 : HP) (y8 : HP) (y9 : Int) (S : HS) : Option ((Bool) × HS) :=
 rec0 y0 y1 y2 y7 y8 (w64 (y9 + 1)) S
theorem J1_snd {rec0 : Sl → Int → Int → HP → HP → Int → HS → Option ((Bool) × HS)} (hD : DS b w D) (hH : HT b w e H) (hrec0 : ∀ ⦃y0 : Sl⦄ ⦃y1 : Int⦄ ⦃y2 : Int⦄ ⦃y7 : HP⦄ ⦃y8 : HP⦄ ⦃y9 : Int⦄ ⦃S : HS⦄ ⦃p : (Bool) × HS⦄ ⦃m E Gf d G B N O K A C F I J M Q U V Z a c i o q r Kf Kg Kh Ki Kj Kk Kl Km Kn Ko Kp Kq Kr Ks Kt Ku Kv Kw Kx Ky Kz Ma Mb Mc Md Me Mf Mg Mh Mi Mj Mk Ml Mm Mn Mo Mp Mq Mr Ms Mt Mu Mv Mw Mx My Mz Na Nb Nc Nd Ne Nf Ng Nh Ni Nj Nk Nl Nm Nn No Np Nq Nr Ns Nt Nu Nv Nw Nx Ny Nz Qa Qb Qc Qd Qe Qf Qg Qh Qi Qj Qk Ql Qm Qn Qo Qp Qq Qr Qs Qt Qu Qv Qw Qx Qy Qz Ua Ub : HV⦄,rec0 y0 y1 y2 y7 y8 y9 S = some p → HR b w e 3 none [.inLoop c27,.inBlock 0,.code c45] ⟨[(Sl.hv y0),(.int .i64 y1),(.int .i64 y2),m,E,Gf,d,(.ptr y7),(.ptr y8),(.int .i64 y9),G,B,N,O,K,A,C,F,I,J,M,Q,U,V,Z,a,c,i,o,q,r,Kf,Kg,Kh,Ki,Kj,Kk,Kl,Km,Kn,Ko,Kp,Kq,Kr,Ks,Kt,Ku,Kv,Kw,Kx,Ky,Kz,Ma,Mb,Mc,Md,Me,Mf,Mg,Mh,Mi,Mj,Mk,Ml,Mm,Mn,Mo,Mp,Mq,Mr,Ms,Mt,Mu,Mv,Mw,Mx,My,Mz,Na,Nb,Nc,Nd,Ne,Nf,Ng,Nh,Ni,Nj,Nk,Nl,Nm,Nn,No,Np,Nq,Nr,Ns,Nt,Nu,Nv,Nw,Nx,Ny,Nz,Qa,Qb,Qc,Qd,Qe,Qf,Qg,Qh,Qi,Qj,Qk,Ql,Qm,Qn,Qo,Qp,Qq,Qr,Qs,Qt,Qu,Qv,Qw,Qx,Qy,Qz,Ua,Ub],[]⟩ S (RR (.bool p.1) p.2)) {p : (Bool) × HS} (h : J1 D H k rec0 y0 y1 y2 y7 y8 y9 S = some p) : HR b w e 3 none [.code c44,.inLoop c27,.inBlock 0,.code c45] ⟨[(Sl.hv y0),(.int .i64 y1),(.int .i64 y2),m,E,Gf,d,(.ptr y7),(.ptr y8),(.int .i64 y9),G,B,N,O,K,A,C,F,I,J,M,Q,U,V,Z,a,c,i,o,q,r,Kf,Kg,Kh,Ki,Kj,Kk,Kl,Km,Kn,Ko,Kp,Kq,Kr,Ks,Kt,Ku,Kv,Kw,Kx,Ky,Kz,Ma,Mb,Mc,Md,Me,Mf,Mg,Mh,Mi,Mj,Mk,Ml,Mm,Mn,Mo,Mp,Mq,Mr,Ms,Mt,Mu,Mv,Mw,Mx,My,Mz,Na,Nb,Nc,Nd,Ne,Nf,Ng,Nh,Ni,Nj,Nk,Nl,Nm,Nn,No,Np,Nq,Nr,Ns,Nt,Nu,Nv,Nw,Nx,Ny,Nz,Qa,Qb,Qc,Qd,Qe,Qf,Qg,Qh,Qi,Qj,Qk,Ql,Qm,Qn,Qo,Qp,Qq,Qr,Qs,Qt,Qu,Qv,Qw,Qx,Qy,Qz,Ua,Ub],[]⟩ S (RR (.bool p.1) p.2) := by
 unfold J1 at h
 refine qR rfl rfl (uM 24 rfl rfl (uC 25 rfl rfl rfl (uA 9 rfl rfl (rE ?_))))
 dsimp only [w0,w1,w2,w3]
 exact hrec0 h
def J6 (D : Dp) (H : Hd) (k : Nat) (y131 : Bool) (S : HS) : Option ((Bool) × HS) :=
 some (y131,S)
theorem J6_snd (hD : DS b w D) (hH : HT b w e H) {p : (Bool) × HS} (h : J6 D H k y131 S = some p) : HR b w e 3 none [.inRegion r48 [45],.code c49] ⟨[Ga,Gb,j,m,E,Gf,d,Gh,g,L,G,B,N,O,K,A,C,F,I,J,M,Q,U,V,Z,a,c,i,o,q,r,Kf,Kg,Kh,Ki,Kj,Kk,Kl,Km,Kn,Ko,Kp,Kq,Kr,Ks,Kt,Ku,Kv,Kw,Kx,Ky,Kz,Ma,Mb,Mc,Md,Me,Mf,Mg,Mh,Mi,Mj,Mk,Ml,Mm,Mn,Mo,Mp,Mq,Mr,Ms,Mt,Mu,Mv,Mw,Mx,My,Mz,Na,Nb,Nc,Nd,Ne,Nf,Ng,Nh,Ni,Nj,Nk,Nl,Nm,Nn,No,Np,Nq,Nr,Ns,Nt,Nu,Nv,Nw,Nx,Ny,Nz,Qa,Qb,Qc,Qd,Qe,Qf,Qg,Qh,Qi,Qj,Qk,Ql,Qm,Qn,Qo,Qp,Qq,Qr,Qs,Qt,Qu,Qv,Qw,Qx,Qy,Qz,Ua,(.bool y131)],[]⟩ S (RR (.bool p.1) p.2) := by
 unfold J6 at h
 refine uA 6 rfl rfl (rE ?_)
 cases h
 exact Zxk rfl at_.at_ rfl (res1 rfl rfl) ⟨rfl,rfl⟩
def J5 (D : Dp) (H : Hd) (k : Nat) (y117 : Bool) (y130 : Bool) (S : HS) : Option ((Bool) × HS) :=
 (if y117 = true then
 J6 D H k y130 S else
 J6 D H k false S)
theorem J5_snd (hD : DS b w D) (hH : HT b w e H) {p : (Bool) × HS} (h : J5 D H k y117 y130 S = some p) : HR b w e 3 none [.inRegion r48 [44,45],.code c49] ⟨[Ga,Gb,j,m,E,Gf,d,Gh,g,L,G,B,N,O,K,A,C,F,I,J,M,Q,U,V,Z,a,c,i,o,q,r,Kf,Kg,Kh,Ki,Kj,Kk,Kl,Km,Kn,Ko,Kp,Kq,Kr,Ks,Kt,Ku,Kv,Kw,Kx,Ky,Kz,Ma,Mb,Mc,Md,Me,Mf,Mg,Mh,Mi,Mj,Mk,Ml,Mm,Mn,Mo,Mp,Mq,Mr,Ms,Mt,Mu,Mv,Mw,Mx,My,Mz,Na,Nb,Nc,Nd,Ne,Nf,Ng,Nh,Ni,Nj,Nk,Nl,Nm,Nn,No,Np,Nq,Nr,Ns,Nt,Nu,Nv,Nw,Nx,Ny,Nz,Qa,Qb,Qc,Qd,Qe,Qf,Qg,Qh,Qi,Qj,Qk,Ql,Qm,(.bool y117),Qo,Qp,Qq,Qr,Qs,Qt,Qu,Qv,Qw,Qx,Qy,Qz,(.bool y130),Ub],[]⟩ S (RR (.bool p.1) p.2) := by
 unfold J5 at h
 rcases ifc h with ⟨hc44,h⟩ | ⟨hc44,h⟩
 ·refine qS 131 rfl (Zxp · (.tmp rfl) hc44 (.tmp rfl)) ?_
  try dsimp only [w0,w1,w2,w3]
  exact J6_snd hD hH h
 ·refine qS 131 rfl (Zxn · (.tmp rfl) (bfalse hc44) (.bool _)) ?_
  try dsimp only [w0,w1,w2,w3]
  exact J6_snd hD hH h
def J4 (D : Dp) (H : Hd) (k : Nat) (y1 : Int) (y2 : Int) (y7 : HP) (y10 : Sl) (y116 : Bool) (S : HS) : Option ((Bool) × HS) :=
 (if y116 = true then
 (if y1 = y2 then
 J5 D H k y116 true S else
 ((Y29.f k y10 y2 S).bind fun p45 =>
 ((Y4.f D H k y7 y1 y2 p45.2).bind fun p46 =>
 J5 D H k y116 (p45.1 == p46.1) p46.2))) else
 J6 D H k false S)
theorem J4_snd (hD : DS b w D) (hH : HT b w e H) {p : (Bool) × HS} (h : J4 D H k y1 y2 y7 y10 y116 S = some p) : HR b w e 3 none [.inRegion r48 [30,31,32,33,34,35,36,37,38,39,40,41,42,43,44,45],.code c49] ⟨[Ga,(.int .i64 y1),(.int .i64 y2),m,E,Gf,d,(.ptr y7),g,L,(Sl.hv y10),B,N,O,K,A,C,F,I,J,M,Q,U,V,Z,a,c,i,o,q,r,Kf,Kg,Kh,Ki,Kj,Kk,Kl,Km,Kn,Ko,Kp,Kq,Kr,Ks,Kt,Ku,Kv,Kw,Kx,Ky,Kz,Ma,Mb,Mc,Md,Me,Mf,Mg,Mh,Mi,Mj,Mk,Ml,Mm,Mn,Mo,Mp,Mq,Mr,Ms,Mt,Mu,Mv,Mw,Mx,My,Mz,Na,Nb,Nc,Nd,Ne,Nf,Ng,Nh,Ni,Nj,Nk,Nl,Nm,Nn,No,Np,Nq,Nr,Ns,Nt,Nu,Nv,Nw,Nx,Ny,Nz,Qa,Qb,Qc,Qd,Qe,Qf,Qg,Qh,Qi,Qj,Qk,Ql,(.bool y116),Qn,Qo,Qp,Qq,Qr,Qs,Qt,Qu,Qv,Qw,Qx,Qy,Qz,Ua,Ub],[]⟩ S (RR (.bool p.1) p.2) := by
 unfold J4 at h
 refine uM 117 rfl rfl ?_
 rcases ifc h with ⟨hc42,h⟩ | ⟨hc42,h⟩
 ·refine qG 117 118 rfl hc42 (oM · rfl) ?_
  try dsimp only [w0,w1,w2,w3]
  refine qG 117 119 rfl hc42 (oM · rfl) (qG 117 120 rfl hc42 (oB · rfl rfl rfl) (qG 117 121 rfl hc42 (oM · rfl) ?_))
  rcases ifc h with ⟨hc43,h⟩ | ⟨hc43,h⟩
  ·refine Zxf (dst := some 122) (t := 121) rfl rfl rfl (decide_eq_true hc43) ?_
   try dsimp only [w0,w1,w2,w3]
   refine Zxf (dst := some 123) (t := 121) rfl rfl rfl (decide_eq_true hc43) (Zxf (dst := some 124) (t := 121) rfl rfl rfl (decide_eq_true hc43) (Zxf (dst := some 125) (t := 121) rfl rfl rfl (decide_eq_true hc43) (Zxf (dst := some 126) (t := 121) rfl rfl rfl (decide_eq_true hc43) ?_)))
   try dsimp only [w0,w1,w2,w3]
   refine Zxf (dst := some 127) (t := 121) rfl rfl rfl (decide_eq_true hc43) (Zxf (dst := some 128) (t := 121) rfl rfl rfl (decide_eq_true hc43) (Zxf (dst := some 129) (t := 121) rfl rfl rfl (decide_eq_true hc43) (qG 117 130 rfl hc42 (Zxp · (.tmp rfl) (decide_eq_true hc43) (.bool _)) ?_)))
   try dsimp only [w0,w1,w2,w3]
   exact J5_snd hD hH h
  ·refine qG 121 122 rfl (decide_eq_false hc43) (oM · rfl) ?_
   try dsimp only [w0,w1,w2,w3]
   obtain ⟨p45,hp45,h⟩ := bindo h
   refine qG 121 123 rfl (decide_eq_false hc43) (oM · rfl) (Zx6 (t := 121) (dst := some 124) rfl rfl rfl (decide_eq_false hc43) (.func _) (ev2 rfl rfl) (HInv.static Y29.at_ Y29.body (Y29.snd  hp45)) ?_)
   rintro _ _ ⟨rfl,rfl⟩
   refine qG 121 125 rfl (decide_eq_false hc43) (oM · rfl) (qG 121 126 rfl (decide_eq_false hc43) (oM · rfl) ?_)
   try dsimp only [w0,w1,w2,w3]
   obtain ⟨p46,hp46,h⟩ := bindo h
   refine qG 121 127 rfl (decide_eq_false hc43) (oM · rfl) (Zx6 (t := 121) (dst := some 128) rfl rfl rfl (decide_eq_false hc43) (.func _) (ev3 rfl rfl rfl) (HInv.static Y4.at_ Y4.body (Y4.snd hD hH hp46)) ?_)
   rintro _ _ ⟨rfl,rfl⟩
   refine qG 121 129 rfl (decide_eq_false hc43) (Zahz · tu4 (.inl ⟨rfl,rfl⟩) (.tmp rfl) (.tmp rfl)) (qG 117 130 rfl hc42 (Zxn · (.tmp rfl) (decide_eq_false hc43) (.tmp rfl)) ?_)
   try dsimp only [w0,w1,w2,w3]
   exact J5_snd hD hH h
 ·refine Zxf (dst := some 118) (t := 117) rfl rfl rfl (bfalse hc42) ?_
  try dsimp only [w0,w1,w2,w3]
  refine Zxf (dst := some 119) (t := 117) rfl rfl rfl (bfalse hc42) (Zxf (dst := some 120) (t := 117) rfl rfl rfl (bfalse hc42) (Zxf (dst := some 121) (t := 117) rfl rfl rfl (bfalse hc42) (Zx4 (dst := some 122) (t := 121) rfl rfl rfl ?_)))
  try dsimp only [w0,w1,w2,w3]
  refine Zx4 (dst := some 123) (t := 121) rfl rfl rfl (Zx4 (dst := some 124) (t := 121) rfl rfl rfl (Zx4 (dst := some 125) (t := 121) rfl rfl rfl (Zx4 (dst := some 126) (t := 121) rfl rfl rfl ?_)))
  try dsimp only [w0,w1,w2,w3]
  refine Zx4 (dst := some 127) (t := 121) rfl rfl rfl (Zx4 (dst := some 128) (t := 121) rfl rfl rfl (Zx4 (dst := some 129) (t := 121) rfl rfl rfl (Zxf (dst := some 130) (t := 117) rfl rfl rfl (bfalse hc42) ?_)))
  try dsimp only [w0,w1,w2,w3]
  refine qS 131 rfl (Zxn · (.tmp rfl) (bfalse hc42) (.bool _)) ?_
  try dsimp only [w0,w1,w2,w3]
  exact J6_snd hD hH h
def J3 (D : Dp) (H : Hd) (k : Nat) (y1 : Int) (y2 : Int) (y7 : HP) (y10 : Sl) (y105 : Bool) (S : HS) : Option ((Bool) × HS) :=
 (if y105 = true then
 ((Y4.f D H k y7 y2 y1 S).bind fun p40 =>
 ((Y4.f D H k y7 y1 y2 p40.2).bind fun p41 =>
 J4 D H k y1 y2 y7 y10 (p40.1 == p41.1) p41.2)) else
 J4 D H k y1 y2 y7 y10 false S)
theorem J3_snd (hD : DS b w D) (hH : HT b w e H) {p : (Bool) × HS} (h : J3 D H k y1 y2 y7 y10 y105 S = some p) : HR b w e 3 none [.inRegion r48 [19,20,21,22,23,24,25,26,27,28,29,30,31,32,33,34,35,36,37,38,39,40,41,42,43,44,45],.code c49] ⟨[Ga,(.int .i64 y1),(.int .i64 y2),m,E,Gf,d,(.ptr y7),g,L,(Sl.hv y10),B,N,O,K,A,C,F,I,J,M,Q,U,V,Z,a,c,i,o,q,r,Kf,Kg,Kh,Ki,Kj,Kk,Kl,Km,Kn,Ko,Kp,Kq,Kr,Ks,Kt,Ku,Kv,Kw,Kx,Ky,Kz,Ma,Mb,Mc,Md,Me,Mf,Mg,Mh,Mi,Mj,Mk,Ml,Mm,Mn,Mo,Mp,Mq,Mr,Ms,Mt,Mu,Mv,Mw,Mx,My,Mz,Na,Nb,Nc,Nd,Ne,Nf,Ng,Nh,Ni,Nj,Nk,Nl,Nm,Nn,No,Np,Nq,Nr,Ns,Nt,Nu,Nv,Nw,Nx,Ny,Nz,Qa,(.bool y105),Qc,Qd,Qe,Qf,Qg,Qh,Qi,Qj,Qk,Ql,Qm,Qn,Qo,Qp,Qq,Qr,Qs,Qt,Qu,Qv,Qw,Qx,Qy,Qz,Ua,Ub],[]⟩ S (RR (.bool p.1) p.2) := by
 unfold J3 at h
 refine uM 106 rfl rfl ?_
 try dsimp only [w0,w1,w2,w3]
 rcases ifc h with ⟨hc39,h⟩ | ⟨hc39,h⟩
 ·obtain ⟨p40,hp40,h⟩ := bindo h
  refine qG 106 107 rfl hc39 (oM · rfl) (qG 106 108 rfl hc39 (oM · rfl) (qG 106 109 rfl hc39 (oM · rfl) (Zx6 (t := 106) (dst := some 110) rfl rfl rfl hc39 (.func _) (ev3 rfl rfl rfl) (HInv.static Y4.at_ Y4.body (Y4.snd hD hH hp40)) ?_)))
  rintro _ _ ⟨rfl,rfl⟩
  try dsimp only [w0,w1,w2,w3]
  obtain ⟨p41,hp41,h⟩ := bindo h
  refine qG 106 111 rfl hc39 (oM · rfl) (qG 106 112 rfl hc39 (oM · rfl) (qG 106 113 rfl hc39 (oM · rfl) (Zx6 (t := 106) (dst := some 114) rfl rfl rfl hc39 (.func _) (ev3 rfl rfl rfl) (HInv.static Y4.at_ Y4.body (Y4.snd hD hH hp41)) ?_)))
  rintro _ _ ⟨rfl,rfl⟩
  try dsimp only [w0,w1,w2,w3]
  refine qG 106 115 rfl hc39 (Zahz · tu4 (.inl ⟨rfl,rfl⟩) (.tmp rfl) (.tmp rfl)) (qS 116 rfl (Zxp · (.tmp rfl) hc39 (.tmp rfl)) ?_)
  try dsimp only [w0,w1,w2,w3]
  exact J4_snd hD hH h
 ·refine Zxf (dst := some 107) (t := 106) rfl rfl rfl (bfalse hc39) (Zxf (dst := some 108) (t := 106) rfl rfl rfl (bfalse hc39) (Zxf (dst := some 109) (t := 106) rfl rfl rfl (bfalse hc39) (Zxf (dst := some 110) (t := 106) rfl rfl rfl (bfalse hc39) ?_)))
  try dsimp only [w0,w1,w2,w3]
  refine Zxf (dst := some 111) (t := 106) rfl rfl rfl (bfalse hc39) (Zxf (dst := some 112) (t := 106) rfl rfl rfl (bfalse hc39) (Zxf (dst := some 113) (t := 106) rfl rfl rfl (bfalse hc39) (Zxf (dst := some 114) (t := 106) rfl rfl rfl (bfalse hc39) ?_)))
  try dsimp only [w0,w1,w2,w3]
  refine Zxf (dst := some 115) (t := 106) rfl rfl rfl (bfalse hc39) (qS 116 rfl (Zxn · (.tmp rfl) (bfalse hc39) (.bool _)) ?_)
  try dsimp only [w0,w1,w2,w3]
  exact J4_snd hD hH h
def J2 (D : Dp) (H : Hd) (k : Nat) (y1 : Int) (y2 : Int) (y7 : HP) (y8 : HP) (y10 : Sl) (y94 : Bool) (S : HS) : Option ((Bool) × HS) :=
 (if y94 = true then
 ((Y4.f D H k y7 y1 y2 S).bind fun p37 =>
 ((Y44.f k y8 y1 y2 p37.2).bind fun p38 =>
 J3 D H k y1 y2 y7 y10 (p37.1 == p38.1) p38.2)) else
 J3 D H k y1 y2 y7 y10 false S)
theorem J2_snd (hD : DS b w D) (hH : HT b w e H) {p : (Bool) × HS} (h : J2 D H k y1 y2 y7 y8 y10 y94 S = some p) : HR b w e 3 none [.inRegion r48 [8,9,10,11,12,13,14,15,16,17,18,19,20,21,22,23,24,25,26,27,28,29,30,31,32,33,34,35,36,37,38,39,40,41,42,43,44,45],.code c49] ⟨[Ga,(.int .i64 y1),(.int .i64 y2),m,E,Gf,d,(.ptr y7),(.ptr y8),L,(Sl.hv y10),B,N,O,K,A,C,F,I,J,M,Q,U,V,Z,a,c,i,o,q,r,Kf,Kg,Kh,Ki,Kj,Kk,Kl,Km,Kn,Ko,Kp,Kq,Kr,Ks,Kt,Ku,Kv,Kw,Kx,Ky,Kz,Ma,Mb,Mc,Md,Me,Mf,Mg,Mh,Mi,Mj,Mk,Ml,Mm,Mn,Mo,Mp,Mq,Mr,Ms,Mt,Mu,Mv,Mw,Mx,My,Mz,Na,Nb,Nc,Nd,Ne,Nf,Ng,Nh,Ni,Nj,Nk,Nl,Nm,Nn,No,Np,(.bool y94),Nr,Ns,Nt,Nu,Nv,Nw,Nx,Ny,Nz,Qa,Qb,Qc,Qd,Qe,Qf,Qg,Qh,Qi,Qj,Qk,Ql,Qm,Qn,Qo,Qp,Qq,Qr,Qs,Qt,Qu,Qv,Qw,Qx,Qy,Qz,Ua,Ub],[]⟩ S (RR (.bool p.1) p.2) := by
 unfold J2 at h
 refine uM 95 rfl rfl ?_
 rcases ifc h with ⟨hc36,h⟩ | ⟨hc36,h⟩
 ·refine qG 95 96 rfl hc36 (oM · rfl) (qG 95 97 rfl hc36 (oM · rfl) (qG 95 98 rfl hc36 (oM · rfl) ?_))
  try dsimp only [w0,w1,w2,w3]
  obtain ⟨p37,hp37,h⟩ := bindo h
  refine Zx6 (t := 95) (dst := some 99) rfl rfl rfl hc36 (.func _) (ev3 rfl rfl rfl) (HInv.static Y4.at_ Y4.body (Y4.snd hD hH hp37)) ?_
  rintro _ _ ⟨rfl,rfl⟩
  refine qG 95 100 rfl hc36 (oM · rfl) (qG 95 101 rfl hc36 (oM · rfl) (qG 95 102 rfl hc36 (oM · rfl) ?_))
  try dsimp only [w0,w1,w2,w3]
  obtain ⟨p38,hp38,h⟩ := bindo h
  refine Zx6 (t := 95) (dst := some 103) rfl rfl rfl hc36 (.func _) (ev3 rfl rfl rfl) (HInv.static Y44.at_ Y44.body (Y44.snd  hp38)) ?_
  rintro _ _ ⟨rfl,rfl⟩
  refine qG 95 104 rfl hc36 (Zahz · tu4 (.inl ⟨rfl,rfl⟩) (.tmp rfl) (.tmp rfl)) (qS 105 rfl (Zxp · (.tmp rfl) hc36 (.tmp rfl)) ?_)
  try dsimp only [w0,w1,w2,w3]
  exact J3_snd hD hH h
 ·refine Zxf (dst := some 96) (t := 95) rfl rfl rfl (bfalse hc36) (Zxf (dst := some 97) (t := 95) rfl rfl rfl (bfalse hc36) (Zxf (dst := some 98) (t := 95) rfl rfl rfl (bfalse hc36) ?_))
  try dsimp only [w0,w1,w2,w3]
  refine Zxf (dst := some 99) (t := 95) rfl rfl rfl (bfalse hc36) (Zxf (dst := some 100) (t := 95) rfl rfl rfl (bfalse hc36) (Zxf (dst := some 101) (t := 95) rfl rfl rfl (bfalse hc36) (Zxf (dst := some 102) (t := 95) rfl rfl rfl (bfalse hc36) ?_)))
  try dsimp only [w0,w1,w2,w3]
  refine Zxf (dst := some 103) (t := 95) rfl rfl rfl (bfalse hc36) (Zxf (dst := some 104) (t := 95) rfl rfl rfl (bfalse hc36) (qS 105 rfl (Zxn · (.tmp rfl) (bfalse hc36) (.bool _)) ?_))
  try dsimp only [w0,w1,w2,w3]
  exact J3_snd hD hH h
def L0 (D : Dp) (H : Hd) (k : Nat) : Nat → Sl → Int → Int → HP → HP → Int → HS → Option ((Bool) × HS)
 | 0,_,_,_,_,_,_,_ => none
 | n + 1,y0,y1,y2,y7,y8,y9,S =>
  (if y9 < (Sl.len y0 : Int) then
  ((S.idx y0 y9 3).bind fun p8 =>
  ((S.ldI .i64 (HA.fld p8 0)).bind fun p9 =>
  (if p9 = 1 then
  ((S.idx y0 y9 3).bind fun p11 =>
  ((S.ldI .i64 (HA.fld p11 1)).bind fun p12 =>
  ((S.idx y0 y9 3).bind fun p13 =>
  ((S.ldS (HA.fld p13 2)).bind fun p14 =>
  ((Y28.f D H k y7 p12 p14 S).bind fun p15 =>
  ((p15.2.idx y0 y9 3).bind fun p16 =>
  ((p15.2.ldI .i64 (HA.fld p16 1)).bind fun p17 =>
  ((p15.2.idx y0 y9 3).bind fun p18 =>
  ((p15.2.ldS (HA.fld p18 2)).bind fun p19 =>
  ((Y11.f k y8 p17 p19 p15.2).bind fun p20 =>
  J1 D H k (L0 D H k n) y0 y1 y2 y7 y8 y9 p20.2)))))))))) else
  ((S.idx y0 y9 3).bind fun p21 =>
  ((S.ldI .i64 (HA.fld p21 1)).bind fun p22 =>
  ((S.idx y0 y9 3).bind fun p23 =>
  ((S.ldS (HA.fld p23 2)).bind fun p24 =>
  ((Y1.f D H k y7 p22 p24 S).bind fun p25 =>
  ((p25.2.idx y0 y9 3).bind fun p26 =>
  ((p25.2.ldI .i64 (HA.fld p26 1)).bind fun p27 =>
  ((p25.2.idx y0 y9 3).bind fun p28 =>
  ((p25.2.ldS (HA.fld p28 2)).bind fun p29 =>
  ((Y9.f k y8 p27 p29 p25.2).bind fun p30 =>
  J1 D H k (L0 D H k n) y0 y1 y2 y7 y8 y9 p30.2))))))))))))) else
  ((Y12.f D H k y7 y1 S).bind fun p31 =>
  ((Y24.f D H p31.1 99 p31.2).bind fun p32 =>
  (if p32.1.2 = true then
  ((Y13.f k y8 y1 p32.2).bind fun p34 =>
  ((Y26.f k p32.1.1 p34.1 p34.2).bind fun p35 =>
  J2 D H k y1 y2 y7 y8 p32.1.1 p35.1 p35.2)) else
  J2 D H k y1 y2 y7 y8 p32.1.1 false p32.2))))
theorem L0_snd (hD : DS b w D) (hH : HT b w e H) : ∀ {n : Nat} ⦃y0 : Sl⦄ ⦃y1 : Int⦄ ⦃y2 : Int⦄ ⦃y7 : HP⦄ ⦃y8 : HP⦄ ⦃y9 : Int⦄ ⦃S : HS⦄ ⦃p : (Bool) × HS⦄ ⦃m E Gf d G B N O K A C F I J M Q U V Z a c i o q r Kf Kg Kh Ki Kj Kk Kl Km Kn Ko Kp Kq Kr Ks Kt Ku Kv Kw Kx Ky Kz Ma Mb Mc Md Me Mf Mg Mh Mi Mj Mk Ml Mm Mn Mo Mp Mq Mr Ms Mt Mu Mv Mw Mx My Mz Na Nb Nc Nd Ne Nf Ng Nh Ni Nj Nk Nl Nm Nn No Np Nq Nr Ns Nt Nu Nv Nw Nx Ny Nz Qa Qb Qc Qd Qe Qf Qg Qh Qi Qj Qk Ql Qm Qn Qo Qp Qq Qr Qs Qt Qu Qv Qw Qx Qy Qz Ua Ub : HV⦄,L0 D H k n y0 y1 y2 y7 y8 y9 S = some p → HR b w e 3 none [.inLoop c27,.inBlock 0,.code c45] ⟨[(Sl.hv y0),(.int .i64 y1),(.int .i64 y2),m,E,Gf,d,(.ptr y7),(.ptr y8),(.int .i64 y9),G,B,N,O,K,A,C,F,I,J,M,Q,U,V,Z,a,c,i,o,q,r,Kf,Kg,Kh,Ki,Kj,Kk,Kl,Km,Kn,Ko,Kp,Kq,Kr,Ks,Kt,Ku,Kv,Kw,Kx,Ky,Kz,Ma,Mb,Mc,Md,Me,Mf,Mg,Mh,Mi,Mj,Mk,Ml,Mm,Mn,Mo,Mp,Mq,Mr,Ms,Mt,Mu,Mv,Mw,Mx,My,Mz,Na,Nb,Nc,Nd,Ne,Nf,Ng,Nh,Ni,Nj,Nk,Nl,Nm,Nn,No,Np,Nq,Nr,Ns,Nt,Nu,Nv,Nw,Nx,Ny,Nz,Qa,Qb,Qc,Qd,Qe,Qf,Qg,Qh,Qi,Qj,Qk,Ql,Qm,Qn,Qo,Qp,Qq,Qr,Qs,Qt,Qu,Qv,Qw,Qx,Qy,Qz,Ua,Ub],[]⟩ S (RR (.bool p.1) p.2) := by
 intro n
 induction n with
 | zero => intro _ _ _ _ _ _ _ _ _ _ _ _ _ _ _ _ _ _ _ _ _ _ _ _ _ _ _ _ _ _ _ _ _ _ _ _ _ _ _ _ _ _ _ _ _ _ _ _ _ _ _ _ _ _ _ _ _ _ _ _ _ _ _ _ _ _ _ _ _ _ _ _ _ _ _ _ _ _ _ _ _ _ _ _ _ _ _ _ _ _ _ _ _ _ _ _ _ _ _ _ _ _ _ _ _ _ _ _ _ _ _ _ _ _ _ _ _ _ _ _ _ _ _ _ _ _ _ _ _ _ _ _ _ _ h; cases h
 | succ n ih =>
  intro y0 y1 y2 y7 y8 y9 S p m E Gf d G B N O K A C F I J M Q U V Z a c i o q r Kf Kg Kh Ki Kj Kk Kl Km Kn Ko Kp Kq Kr Ks Kt Ku Kv Kw Kx Ky Kz Ma Mb Mc Md Me Mf Mg Mh Mi Mj Mk Ml Mm Mn Mo Mp Mq Mr Ms Mt Mu Mv Mw Mx My Mz Na Nb Nc Nd Ne Nf Ng Nh Ni Nj Nk Nl Nm Nn No Np Nq Nr Ns Nt Nu Nv Nw Nx Ny Nz Qa Qb Qc Qd Qe Qf Qg Qh Qi Qj Qk Ql Qm Qn Qo Qp Qq Qr Qs Qt Qu Qv Qw Qx Qy Qz Ua Ub h
  simp only [L0] at h
  refine Zxw (qQ rfl (qT rfl rfl rfl (uM 20 rfl rfl (uM 21 rfl rfl (qS 22 rfl (Zxh (q := Sl.a y0) (n := Sl.len y0) (z := Sl.cap y0) · rfl tu22 (.tmp rfl)) (uB 23 rfl rfl rfl rfl (rE ?_)))))))
  dsimp only [w0,w1,w2,w3]
  rcases ifc h with ⟨hc7,h⟩ | ⟨hc7,h⟩
  ·obtain ⟨p8,hp8,h⟩ := bindo h
   refine Zxb rfl (.tmp rfl) (decide_eq_true hc7) (Zxe rfl (qQ rfl (Zxm rfl (qT rfl rfl rfl (uM 26 rfl rfl (uM 27 rfl rfl (qS 28 rfl (oX (s := y0) · tu22 sz34 rfl rfl hp8) (uF 29 rfl fi34_0 (by decide) rfl rfl ?_))))))))
   try dsimp only [w0,w1,w2,w3]
   obtain ⟨p9,hp9,h⟩ := bindo h
   refine uL 30 rfl sc3 rfl rfl (Zxt hp9) (uC 31 rfl rfl rfl (rE ?_))
   dsimp only [w0,w1,w2,w3]
   rcases ifc h with ⟨hc10,h⟩ | ⟨hc10,h⟩
   ·refine Zxb rfl (.tmp rfl) (decide_eq_true hc10) (qQ rfl ?_)
    refine Zx7 (cls := [0,0,0,1,0,1,0,0,1,0,1,2]) (rk := [0,1,2,3,4,5,6,7,8,9,10,11]) rfl (by kernel_rfl) ?_
    refine yf 32 [7] rfl (oM · rfl) ?_
    refine yf 33 [0] rfl (oM · rfl) ?_
    refine yf 34 [9] rfl (oM · rfl) ?_
    obtain ⟨p11,hp11,h⟩ := bindo h
    refine yr 35 [33,34] rfl (oX (s := y0) · tu22 sz34 rfl rfl hp11) ?_
    try dsimp only [w0,w1,w2,w3]
    refine yf 36 [35] rfl (oF · Zagr (by decide) rfl rfl) ?_
    obtain ⟨p12,hp12,h⟩ := bindo h
    refine yr 37 [36] rfl (oL · sc3 rfl rfl (Zxt hp12)) ?_
    refine yf 38 [0] rfl (oM · rfl) ?_
    refine yf 39 [9] rfl (oM · rfl) ?_
    try dsimp only [w0,w1,w2,w3]
    obtain ⟨p13,hp13,h⟩ := bindo h
    refine yr 40 [38,39] rfl (oX (s := y0) · tu22 sz34 rfl rfl hp13) ?_
    refine yf 41 [40] rfl (oF · Zae3 (by decide) rfl rfl) ?_
    obtain ⟨p14,hp14,h⟩ := bindo h
    refine yr 42 [41] rfl (oL · sc9 rfl rfl (Zyf hp14)) ?_
    obtain ⟨p15,hp15,h⟩ := bindo h
    refine x_go (Zabn (dst := some 43) (ts := [32,37,42]) rfl (by kernel_rfl) (.func _) (ev3 rfl rfl rfl) (HInv.static Y28.at_ Y28.body (Y28.snd hD hH hp15))) rfl ?_
    refine Zyb rfl ?_
    refine rE ?_
    try dsimp only [w0,w1,w2,w3]
    refine Zx7 (cls := [0,0,0,1,0,1,0,0,1,0,1,2]) (rk := [0,1,2,3,4,5,6,7,8,9,10,11]) rfl (by kernel_rfl) ?_
    refine yf 44 [8] rfl (oM · rfl) ?_
    refine yf 45 [0] rfl (oM · rfl) ?_
    refine yf 46 [9] rfl (oM · rfl) ?_
    obtain ⟨p16,hp16,h⟩ := bindo h
    refine yr 47 [45,46] rfl (oX (s := y0) · tu22 sz34 rfl rfl hp16) ?_
    try dsimp only [w0,w1,w2,w3]
    refine yf 48 [47] rfl (oF · Zagr (by decide) rfl rfl) ?_
    obtain ⟨p17,hp17,h⟩ := bindo h
    refine yr 49 [48] rfl (oL · sc3 rfl rfl (Zxt hp17)) ?_
    refine yf 50 [0] rfl (oM · rfl) ?_
    refine yf 51 [9] rfl (oM · rfl) ?_
    try dsimp only [w0,w1,w2,w3]
    obtain ⟨p18,hp18,h⟩ := bindo h
    refine yr 52 [50,51] rfl (oX (s := y0) · tu22 sz34 rfl rfl hp18) ?_
    refine yf 53 [52] rfl (oF · Zae3 (by decide) rfl rfl) ?_
    obtain ⟨p19,hp19,h⟩ := bindo h
    refine yr 54 [53] rfl (oL · sc9 rfl rfl (Zyf hp19)) ?_
    obtain ⟨p20,hp20,h⟩ := bindo h
    refine x_go (Zabn (dst := some 55) (ts := [44,49,54]) rfl (by kernel_rfl) (.func _) (ev3 rfl rfl rfl) (HInv.static Y11.at_ Y11.body (Y11.snd  hp20))) rfl ?_
    refine Zyb rfl ?_
    refine rE ?_
    try dsimp only [w0,w1,w2,w3]
    refine Zxg ?_
    try dsimp only [w0,w1,w2,w3]
    exact J1_snd hD hH ih h
   ·refine Zxc rfl (.tmp rfl) (decide_eq_false hc10) (qQ rfl ?_)
    refine Zx7 (cls := [0,0,0,1,0,1,0,0,1,0,1,2]) (rk := [0,1,2,3,4,5,6,7,8,9,10,11]) rfl (by kernel_rfl) ?_
    refine yf 56 [7] rfl (oM · rfl) ?_
    refine yf 57 [0] rfl (oM · rfl) ?_
    refine yf 58 [9] rfl (oM · rfl) ?_
    obtain ⟨p21,hp21,h⟩ := bindo h
    refine yr 59 [57,58] rfl (oX (s := y0) · tu22 sz34 rfl rfl hp21) ?_
    try dsimp only [w0,w1,w2,w3]
    refine yf 60 [59] rfl (oF · Zagr (by decide) rfl rfl) ?_
    obtain ⟨p22,hp22,h⟩ := bindo h
    refine yr 61 [60] rfl (oL · sc3 rfl rfl (Zxt hp22)) ?_
    refine yf 62 [0] rfl (oM · rfl) ?_
    refine yf 63 [9] rfl (oM · rfl) ?_
    try dsimp only [w0,w1,w2,w3]
    obtain ⟨p23,hp23,h⟩ := bindo h
    refine yr 64 [62,63] rfl (oX (s := y0) · tu22 sz34 rfl rfl hp23) ?_
    refine yf 65 [64] rfl (oF · Zae3 (by decide) rfl rfl) ?_
    obtain ⟨p24,hp24,h⟩ := bindo h
    refine yr 66 [65] rfl (oL · sc9 rfl rfl (Zyf hp24)) ?_
    obtain ⟨p25,hp25,h⟩ := bindo h
    refine x_go (Zabn (dst := some 67) (ts := [56,61,66]) rfl (by kernel_rfl) (.func _) (ev3 rfl rfl rfl) (HInv.static Y1.at_ Y1.body (Y1.snd hD hH hp25))) rfl ?_
    refine Zyb rfl ?_
    refine rE ?_
    try dsimp only [w0,w1,w2,w3]
    refine Zx7 (cls := [0,0,0,1,0,1,0,0,1,0,1,2]) (rk := [0,1,2,3,4,5,6,7,8,9,10,11]) rfl (by kernel_rfl) ?_
    refine yf 68 [8] rfl (oM · rfl) ?_
    refine yf 69 [0] rfl (oM · rfl) ?_
    refine yf 70 [9] rfl (oM · rfl) ?_
    obtain ⟨p26,hp26,h⟩ := bindo h
    refine yr 71 [69,70] rfl (oX (s := y0) · tu22 sz34 rfl rfl hp26) ?_
    try dsimp only [w0,w1,w2,w3]
    refine yf 72 [71] rfl (oF · Zagr (by decide) rfl rfl) ?_
    obtain ⟨p27,hp27,h⟩ := bindo h
    refine yr 73 [72] rfl (oL · sc3 rfl rfl (Zxt hp27)) ?_
    refine yf 74 [0] rfl (oM · rfl) ?_
    refine yf 75 [9] rfl (oM · rfl) ?_
    try dsimp only [w0,w1,w2,w3]
    obtain ⟨p28,hp28,h⟩ := bindo h
    refine yr 76 [74,75] rfl (oX (s := y0) · tu22 sz34 rfl rfl hp28) ?_
    refine yf 77 [76] rfl (oF · Zae3 (by decide) rfl rfl) ?_
    obtain ⟨p29,hp29,h⟩ := bindo h
    refine yr 78 [77] rfl (oL · sc9 rfl rfl (Zyf hp29)) ?_
    obtain ⟨p30,hp30,h⟩ := bindo h
    refine x_go (Zabn (dst := some 79) (ts := [68,73,78]) rfl (by kernel_rfl) (.func _) (ev3 rfl rfl rfl) (HInv.static Y9.at_ Y9.body (Y9.snd  hp30))) rfl ?_
    refine Zyb rfl ?_
    refine rE ?_
    try dsimp only [w0,w1,w2,w3]
    refine Zxg ?_
    try dsimp only [w0,w1,w2,w3]
    exact J1_snd hD hH ih h
  ·obtain ⟨p31,hp31,h⟩ := bindo h
   refine Zxc rfl (.tmp rfl) (decide_eq_false hc7) (Zya rfl rfl (qT rfl rfl rfl (uM 81 rfl rfl (uM 82 rfl rfl (uQ 83 rfl (.func _) (ev2 rfl rfl) (HInv.static Y12.at_ Y12.body (Y12.snd hD hH hp31)) ?_)))))
   obtain ⟨p32,hp32,h⟩ := bindo h
   refine uQ 84 rfl (.func _) (.cons (.tmp rfl) (.cons (.int _ _) Evs.nil)) (HInv.static Y24.at_ Y24.body (Y24.snd hD hH hp32)) ?_
   try dsimp only [w0,w1,w2,w3]
   refine uM 80 rfl rfl (qS 85 rfl (Zxo · (.tmp rfl) rfl) (qS 86 rfl (Zxo · (.tmp rfl) rfl) (uA 10 rfl rfl ?_)))
   try dsimp only [w0,w1,w2,w3]
   refine uA 11 rfl rfl (rE ?_)
   dsimp only [w0,w1,w2,w3]
   refine qT rfl rfl rfl (uM 87 rfl rfl (uM 88 rfl rfl ?_))
   rcases ifc h with ⟨hc33,h⟩ | ⟨hc33,h⟩
   ·refine qG 88 89 rfl hc33 (oM · rfl) (qG 88 90 rfl hc33 (oM · rfl) ?_)
    try dsimp only [w0,w1,w2,w3]
    obtain ⟨p34,hp34,h⟩ := bindo h
    refine qG 88 91 rfl hc33 (oM · rfl) (Zx6 (t := 88) (dst := some 92) rfl rfl rfl hc33 (.func _) (ev2 rfl rfl) (HInv.static Y13.at_ Y13.body (Y13.snd  hp34)) ?_)
    rintro _ _ ⟨rfl,rfl⟩
    obtain ⟨p35,hp35,h⟩ := bindo h
    refine Zx6 (t := 88) (dst := some 93) rfl rfl rfl hc33 (.func _) (ev2 rfl rfl) (HInv.static Y26.at_ Y26.body (Y26.snd  hp35)) ?_
    rintro _ _ ⟨rfl,rfl⟩
    refine qS 94 rfl (Zxp · (.tmp rfl) hc33 (.tmp rfl)) ?_
    try dsimp only [w0,w1,w2,w3]
    exact J2_snd hD hH h
   ·refine Zxf (dst := some 89) (t := 88) rfl rfl rfl (bfalse hc33) (Zxf (dst := some 90) (t := 88) rfl rfl rfl (bfalse hc33) ?_)
    try dsimp only [w0,w1,w2,w3]
    refine Zxf (dst := some 91) (t := 88) rfl rfl rfl (bfalse hc33) (Zxf (dst := some 92) (t := 88) rfl rfl rfl (bfalse hc33) (Zxf (dst := some 93) (t := 88) rfl rfl rfl (bfalse hc33) (qS 94 rfl (Zxn · (.tmp rfl) (bfalse hc33) (.bool _)) ?_)))
    try dsimp only [w0,w1,w2,w3]
    exact J2_snd hD hH h
def f (D : Dp) (H : Hd) (k : Nat) (x0 : Sl) (x1 : Int) (x2 : Int) (S : HS) : Option ((Bool) × HS) :=
 ((aw.f S).bind fun p1 =>
 (if (!p1.1) = true then
 some (false,p1.2) else
 ((Y51.f k x0 p1.2).bind fun p3 =>
 (if p3.1 = true then
 some (true,p3.2) else
 ((Y37.f [] [] [] [] 0 0 50 50 3 0 0 0 0 0 0 p3.2).bind fun p5 =>
 (letv (HS.new p5.2 (.cells 4 [[(.int .i64 50),(.int .i64 50),(.int .i64 3),(Sl.hv Sl.nil)]] true)) fun p6 =>
 L0 D H k k x0 x1 x2 p5.1 (some (HA.cell0 p5.2.next)) 0 p6))))))
theorem snd {x0 : Sl} {x1 : Int} {x2 : Int} (hD : DS b w D) (hH : HT b w e H) {p : (Bool) × HS} (h : f D H k x0 x1 x2 S = some p) : HC b w e 3 [(Sl.hv x0),(.int .i64 x1),(.int .i64 x2)] S (RR (.bool p.1) p.2) := by
 unfold f at h
 refine HCall.of_run at_.at_ body ?_
 show HR b w e 3 none [.code c0] ⟨[(Sl.hv x0),(.int .i64 x1),(.int .i64 x2),z,z,z,z,z,z,z,z,z,z,z,z,z,z,z,z,z,z,z,z,z,z,z,z,z,z,z,z,z,z,z,z,z,z,z,z,z,z,z,z,z,z,z,z,z,z,z,z,z,z,z,z,z,z,z,z,z,z,z,z,z,z,z,z,z,z,z,z,z,z,z,z,z,z,z,z,z,z,z,z,z,z,z,z,z,z,z,z,z,z,z,z,z,z,z,z,z,z,z,z,z,z,z,z,z,z,z,z,z,z,z,z,z,z,z,z,z,z,z,z,z,z,z,z,z,z,z,z,z],[]⟩ S _
 refine qT rfl rfl rfl (qS 6 rfl (Zxa · (.bool _)) (rE ?_))
 dsimp only [w0,w1,w2,w3]
 obtain ⟨p1,hp1,h⟩ := bindo h
 refine qQ rfl (qT rfl rfl rfl (uQ 12 rfl (.func _) Evs.nil (HInv.static Y90.at_ Y90.body (aw.snd hp1)) (qS 13 rfl (Zys · (.tmp rfl)) (rE ?_))))
 dsimp only [w0,w1,w2,w3]
 rcases ifc h with ⟨hc2,h⟩ | ⟨hc2,h⟩
 ·refine Zxb rfl (.tmp rfl) hc2 (qT rfl rfl rfl (qS 6 rfl (Zxa · (.bool _)) (rE ?_)))
  cases h
  exact Zxk rfl at_.at_ rfl (res1 rfl rfl) ⟨rfl,rfl⟩
 ·obtain ⟨p3,hp3,h⟩ := bindo h
  refine Zxc rfl (.tmp rfl) (bfalse hc2) (Zxe rfl (qQ rfl (qT rfl rfl rfl (uM 14 rfl rfl (uQ 15 rfl (.func _) (ev1 rfl) (HInv.static Y51.at_ Y51.body (Y51.snd  hp3)) (rE ?_))))))
  dsimp only [w0,w1,w2,w3]
  rcases ifc h with ⟨hc4,h⟩ | ⟨hc4,h⟩
  ·refine Zxb rfl (.tmp rfl) hc4 (qT rfl rfl rfl (qS 6 rfl (Zxa · (.bool _)) (rE ?_)))
   cases h
   exact Zxk rfl at_.at_ rfl (res1 rfl rfl) ⟨rfl,rfl⟩
  ·obtain ⟨p5,hp5,h⟩ := bindo h
   refine Zxc rfl (.tmp rfl) (bfalse hc4) (Zxe rfl (qT rfl rfl rfl (qS 16 rfl (Zyv (is := [7,6,8]) (xs := [(.const (.int .i64 50)),(.const (.int .i64 50)),(.const (.int .i64 3))]) (r := [(.str []),(.str []),(.str []),(.str []),(.int .i64 0),(.int .i64 0),(.int .i64 50),(.int .i64 50),(.int .i64 3),(.int .i64 0),(.int .i64 0),(.int .i64 0),(.int .i64 0),(.int .i64 0),(.int .i64 0)]) st28 · rfl rfl (.cons (.int _ _) (.cons (.int _ _) (.cons (.int _ _) Evs.nil))) rfl) (uQ 17 rfl (.func _) (ev1 rfl) (HInv.static Y37.at_ Y37.body (Y37.snd  hp5)) (uA 7 rfl rfl (rE ?_))))))
   dsimp only [w0,w1,w2,w3]
   obtain ⟨p6,hp6,h⟩ := leto h
   refine qT rfl rfl rfl (qS 18 rfl (Zyv (is := [0,1,2]) (xs := [(.const (.int .i64 50)),(.const (.int .i64 50)),(.const (.int .i64 3))]) (r := [(.int .i64 50),(.int .i64 50),(.int .i64 3),(Sl.hv Sl.nil)]) st32 · rfl rfl (.cons (.int _ _) (.cons (.int _ _) (.cons (.int _ _) Evs.nil))) rfl) (qS 19 rfl (Zyk · (.tmp rfl) (Yav _) rfl hp6) (uA 8 rfl rfl (rE ?_))))
   dsimp only [w0,w1,w2,w3]
   refine qQ rfl (qT rfl rfl rfl (qS 9 rfl (Zxa · (.int _ _)) (rE ?_)))
   dsimp only [w0,w1,w2,w3]
   refine Zxm rfl (Zx9 rfl ?_)
   try dsimp only [w0,w1,w2,w3]
   exact L0_snd hD hH h
end Y14
end
end Go.Proofs.YtbmfomkfmpppiaaGreat.X
namespace Go.Proofs.YtbmfomkfmpppiaaGreat.X
open Go.Proofs.YtbmfomkfmpppiaaGreat.HL
set_option linter.unusedVariables false
theorem Zabc {n z : Nat} {T T' : HS} {s : Sl} {rows : List (List HV)} (h : Vec n T z s rows) (he : ∀ q,s.a = some q → T'.heap q.1 = T.heap q.1) (hn : T.next ≤ T'.next) : Vec n T' z s rows := by
 cases h with
 | nil => exact .nil
 | open_ g1 g2 g3 => exact .open_ ((he _ rfl).trans g1) g2 (Yai g3 hn)
 | capped g1 g2 g3 g4 g5 g6 => exact .capped ((he _ rfl).trans g1) g2 (Yai g3 hn) g4 g5 g6
theorem Zx1 {S S' : HS} {z : Nat} {s : Sl} {rows : List (List HV)} (h : S.rows s z = some rows) (hk : ∀ q,s.a = some q → S'.heap q.1 = S.heap q.1) : S'.rows s z = some rows := by
 unfold HS.rows at h ⊢
 cases ha : s.a with
 | none => rw [ha] at h; exact h
 | some q =>
  obtain ⟨id,off⟩ := q
  rw [ha] at h
  simp only at h ⊢
  rw [hk _ ha]
  exact h
def OV (S : HS) (z : Nat) (s : Sl) (rows : List (List HV)) : Prop := (s.a = none ∧ s.len = 0 ∧ rows = []) ∨ ∃ id,s = ⟨some (id,0),rows.length,none⟩ ∧ S.heap id = .cells z rows true ∧ id < S.next
theorem OV.keep {S S' : HS} {z : Nat} {s : Sl} {rows : List (List HV)} (h : OV S z s rows) (he : ∀ q,s.a = some q → S'.heap q.1 = S.heap q.1) (hn : S.next ≤ S'.next) : OV S' z s rows := by
 rcases h with h | ⟨id,rfl,h2,h3⟩
 ·exact .inl h
 ·exact .inr ⟨id,rfl,(he _ rfl).trans h2,Yai h3 hn⟩
theorem OV.rows {S : HS} {z : Nat} {s : Sl} {rows : List (List HV)} (h : OV S z s rows) : S.rows s z = some rows := by
 rcases h with ⟨h1,h2,rfl⟩ | ⟨id,rfl,h2,h3⟩
 ·unfold HS.rows; rw [h1]; simp [h2]
 ·simp [HS.rows,h2]
theorem OV.len {S : HS} {z : Nat} {s : Sl} {rows : List (List HV)} (h : OV S z s rows) : s.len = rows.length := (Zx3 h.rows).symm
theorem OV.lt {S : HS} {z : Nat} {s : Sl} {rows : List (List HV)} (h : OV S z s rows) {q : Nat × Nat} (hq : s.a = some q) : q.1 < S.next := by
 rcases h with ⟨h1,_,_⟩ | ⟨id,rfl,h2,h3⟩
 ·rw [h1] at hq; cases hq
 ·cases hq; exact h3
theorem Zagi {S : HS} {z : Nat} {s : Sl} {rows : List (List HV)} {row : List HV} (h : OV S z s rows) {i : Nat} (hi : i ≤ rows.length) (hb : rows.length + 1 ≤ 2147483648) :
  ∃ s' S',(S.lit [row] z).2.ins s (i : Int) (S.lit [row] z).1 z = some (s',S') ∧ OV S' z s' (rows.take i ++ [row] ++ rows.drop i) ∧ S.next ≤ S'.next ∧ (∀ id,id < S.next → (∀ q,s.a = some q → q.1 ≠ id) → S'.heap id = S.heap id) ∧ ∀ q,s'.a = some q → S.next ≤ q.1 := by
 have hr : (S.lit [row] z).2.rows (S.lit [row] z).1 z = some [row] := by simp [HS.lit,HS.rows,Zxv]
 unfold HS.ins
 rw [hr,obs]
 rcases h with ⟨h1,h2,rfl⟩ | ⟨id,rfl,h2,h3⟩
 ·obtain rfl : i = 0 := by simpa using hi
  rw [if_neg (by rw [h2]; simp),h1]
  simp only
  rw [if_pos ⟨h2,rfl⟩]
  refine ⟨_,_,rfl,.inr ⟨_,rfl,Zxv _ _,Yaw _⟩,?_,fun id hid _ => ?_,fun q hq => ?_⟩
  ·simp only [HS.lit,Zxz]; omega
  ·rw [Zyn _ (by simp only [HS.lit,Zxz]; omega)]; exact Zyn _ hid
  ·cases hq; simp only [HS.lit,Zxz]; omega
 ·rw [if_neg (by simp; omega)]
  have hid : (S.lit [row] z).2.heap id = .cells z rows true := (Zyn _ h3).trans h2
  simp only [hid,show (S.lit [row] z).1.a = some (S.next,0) from rfl]
  have hc : z = z ∧ (0 : Nat) = 0 ∧ (none : Option Nat) = none ∧ rows.length = rows.length ∧ (0 : Int) ≤ (i : Int) ∧ (i : Int) ≤ (rows.length : Int) ∧ S.next ≠ id ∧ S.next < (S.lit [row] z).2.next ∧ (S.lit [row] z).2.mrk S.next ≠ 1 ∧ ((S.lit [row] z).2.heap S.next).own = true := by
   refine ⟨rfl,rfl,rfl,rfl,by omega,by omega,by omega,Yaw _,?_,?_⟩
   ·simp [HS.lit,HS.new,HS.newM]
   ·show ((S.new _).heap S.next).own = true
    rw [Zxv]; rfl
  rw [if_pos (by simpa using hc)]
  have hn : (S.lit [row] z).2.next = S.next + 1 := rfl
  refine ⟨_,_,rfl,.inr ⟨S.next + 2,?_,?_,?_⟩,?_,fun x hx hq => ?_,fun q hq => ?_⟩
  ·simp only [hn]; simp; omega
  ·simp [HS.swap,hn]
  ·show S.next + 2 < (S.lit [row] z).2.next + 2; rw [hn]; omega
  ·show S.next ≤ (S.lit [row] z).2.next + 2; rw [hn]; omega
  ·have hxi : x ≠ id := fun e => hq _ rfl e.symm
   show (if x = (S.lit [row] z).2.next + 1 then _ else if x = (S.lit [row] z).2.next ∨ x = id then HObj.dead else (S.lit [row] z).2.heap x) = S.heap x
   rw [if_neg (by omega),if_neg (by omega)]
   exact Zyn _ hx
  ·cases hq; simp only [hn]; omega
theorem Zagj {S : HS} {z : Nat} {s : Sl} {rows : List (List HV)} (h : OV S z s rows) {i : Nat} (hi : i < rows.length) (hb : rows.length ≤ 2147483648) :
  ∃ s' S',S.del s (i : Int) ((i + 1 : Nat) : Int) z = some (s',S') ∧ OV S' z s' (rows.eraseIdx i) ∧ S.next ≤ S'.next ∧ (∀ id,id < S.next → (∀ q,s.a = some q → q.1 ≠ id) → S'.heap id = S.heap id) ∧ ∀ q,s'.a = some q → S.next ≤ q.1 := by
 rcases h with ⟨h1,h2,rfl⟩ | ⟨id,rfl,h2,h3⟩
 ·simp at hi
 ·unfold HS.del
  simp only [h2]
  rw [if_pos (by refine ⟨trivial,trivial,trivial,trivial,?_,?_,?_,?_⟩ <;> omega)]
  refine ⟨_,_,rfl,.inr ⟨S.next,?_,?_,Yaw _⟩,Nat.le_succ _,fun x hx hq => ?_,fun q hq => by cases hq; exact Yaa _⟩
  ·simp only [Int.toNat_natCast,List.length_eraseIdx,if_pos hi]
   congr 1; omega
  ·show (if S.next = S.next then HObj.cells z (rows.take (i : Int).toNat ++ rows.drop ((i + 1 : Nat) : Int).toNat) true else _) = _
   rw [if_pos rfl,Int.toNat_natCast,Int.toNat_natCast,List.eraseIdx_eq_take_drop_succ]
  ·show (if x = S.next then _ else if x = id then HObj.dead else S.heap x) = S.heap x
   rw [if_neg (by omega),if_neg (fun e => hq _ rfl e.symm)]
theorem Zadv {S : HS} {s : Sl} {z : Nat} {rows : List (List HV)} (h : S.rows s z = some rows) {m : Nat} (hm : m ≤ rows.length) : ∃ sc,S.cut s (m : Int) (rows.length : Int) z = some sc ∧ S.rows sc z = some (rows.drop m) := by
 have hl := Zx3 h
 obtain ⟨sa,sl,sc⟩ := s
 have hl2 : rows.length = sl := hl
 subst hl2
 cases sa with
 | none =>
  simp only [HS.rows] at h
  split at h
  ·rename_i e
   cases h
   obtain rfl : m = 0 := by simpa using hm
   exact ⟨⟨none,0,sc⟩,by simp [HS.cut],by simp [HS.rows]⟩
  ·cases h
 | some p =>
  obtain ⟨id,off⟩ := p
  simp only [HS.rows] at h
  split at h
  ·rename_i z' rws own hh
   split at h
   ·rename_i hc
    obtain ⟨rfl,hc⟩ := hc
    simp only [Option.some.injEq] at h
    refine ⟨_,Zzj hh hm (Yaa _),?_⟩
    rw [Zab6 hh (by omega)]
    congr 1
    rw [← List.drop_drop,← List.drop_take,h]
   ·cases h
  ·cases h
theorem Zadw {S S' : HS} {s : Sl} (l h : Int) (z : Nat) (hk : ∀ q,s.a = some q → S'.heap q.1 = S.heap q.1) : S'.cut s l h z = S.cut s l h z := by
 unfold HS.cut
 cases ha : s.a with
 | none => rfl
 | some q => obtain ⟨id,off⟩ := q; simp only [hk _ ha]
theorem Zaeq {S : HS} {s : Sl} {z : Nat} {rows : List (List HV)} (h : S.rows s z = some rows) {m : Nat} (hm : m ≤ rows.length) : ∃ sc,S.cut s 0 (m : Int) z = some sc ∧ S.rows sc z = some (rows.take m) := by
 have hl := Zx3 h
 obtain ⟨sa,sl,sc⟩ := s
 have hl2 : rows.length = sl := hl
 subst hl2
 cases sa with
 | none =>
  simp only [HS.rows] at h
  split at h
  ·rename_i e
   cases h
   obtain rfl : m = 0 := by simpa using hm
   exact ⟨⟨none,0,sc⟩,by simp [HS.cut],by simp [HS.rows]⟩
  ·cases h
 | some p =>
  obtain ⟨id,off⟩ := p
  simp only [HS.rows] at h
  split at h
  ·rename_i z' rws own hh
   split at h
   ·rename_i hc
    obtain ⟨rfl,hc⟩ := hc
    simp only [Option.some.injEq] at h
    have e := Zzj (S := S) (id := id) (off := off) (len := rows.length) (c := sc) (l := 0) (q := m) hh (Yak _) hm
    rw [show ((0 : Nat) : Int) = 0 from rfl] at e
    refine ⟨_,e,?_⟩
    rw [Zab6 hh (by omega)]
    congr 1
    rw [Nat.sub_zero,Nat.add_zero,← h,List.take_take,Nat.min_eq_left (by omega)]
   ·cases h
  ·cases h
theorem Zagk {i j : Nat} (h : i + j ≤ 1000000) : w64 (Int.fdiv (IntKind.wrap .u64 (w64 ((i : Int) + (j : Int)))) (2 ^ (min (Int.toNat 1) (IntKind.bits .u64)))) = (((i + j) / 2 : Nat) : Int) := by
 have e1 : w64 ((i : Int) + (j : Int)) = ((i + j : Nat) : Int) := by rw [Zx2 (by omega) (by omega)]; omega
 have e2 : IntKind.wrap .u64 ((i + j : Nat) : Int) = ((i + j : Nat) : Int) := by
  simp only [IntKind.wrap,IntKind.signed,IntKind.bits]
  simp
  omega
 have e3 : (2 : Int) ^ (min (Int.toNat 1) (IntKind.bits .u64)) = 2 := by decide
 rw [e1,e2,e3]
 have e4 : Int.fdiv ((i + j : Nat) : Int) 2 = (((i + j) / 2 : Nat) : Int) := by
  rw [Int.fdiv_eq_ediv_of_nonneg _ (by omega)]; omega
 rw [e4,Zx2 (by omega) (by omega)]
theorem OV.none {S : HS} {z : Nat} {s : Sl} {rows : List (List HV)} (h : OV S z s rows) (ha : s.a = none) : rows = [] := by
 rcases h with ⟨_,_,h⟩ | ⟨id,rfl,_,_⟩
 ·exact h
 ·cases ha
theorem OV.rd {S : HS} {z : Nat} {s : Sl} {rows : List (List HV)} (h : OV S z s rows) : Rd S.next S z s rows := ⟨h.rows,fun q hq => h.lt hq⟩
theorem Zaer {S : HS} {s : Sl} {rows : List (List HV)} (h : S.rows s 1 = some rows) {i : Nat} (hi : i < rows.length) {v : HV} (hv : rows[i] = [v]) : ∃ ad,S.idx s (i : Int) 1 = some ad ∧ S.get ad = some v := by
 obtain ⟨ad,h1,h2,h3⟩ := Zabt h (i := i) hi
 refine ⟨ad,h1,?_⟩
 have := Zaa0 (j := 0) (v := v) h3 h2 (by simp [hv])
 obtain ⟨a1,a2,a3⟩ := ad
 simp only at h2
 subst h2
 exact this
theorem Zafs {S : HS} {ad : HA} {r : List HV} {m : Option Nat} {j : Nat} (h : S.row ad.id ad.i = some r) (hj : ad.j = 0) (hv : r[j]? = some (.map m)) : S.ldM (HA.fld ad j) = some m := by
 rw [HS.ldM,Zaa0 h hj hv]; rfl
theorem dI_at (n : Int) : dI .i64 (HV.int .i64 n) = some n := by simp [dI]
def Own (p : Nat) (s : Sl) (id : Nat) : Prop := id = p ∨ ∃ q,s.a = some q ∧ q.1 = id
structure Only (q : Nat) (s s' : Sl) (S S' : HS) : Prop where
 le : S.next ≤ S'.next
 eq : ∀ id,id < S.next → ¬ Own q s id → S'.heap id = S.heap id
 own : ∀ id,Own q s' id → Own q s id ∨ S.next ≤ id
theorem Only.refl (q : Nat) (s : Sl) (S : HS) : Only q s s S S := ⟨Yaa _,fun _ _ _ => rfl,fun _ h => .inl h⟩
theorem Only.trans {q : Nat} {s s' s'' : Sl} {S S' S'' : HS} (h : Only q s s' S S') (k : Only q s' s'' S' S'') : Only q s s'' S S'' :=
 ⟨Ya2 h.le k.le,fun id h1 h2 => (k.eq id (Yai h1 h.le) (fun ho => (h.own id ho).elim h2 (fun h3 => by omega))).trans (h.eq id h1 h2),fun id ho => by
  rcases k.own id ho with h1 | h1
  ·exact h.own id h1
  ·have := h.le; exact .inr (by omega)⟩
theorem Only.of_fr {q : Nat} {s : Sl} {S S' : HS} (h : Fr S.next S S') : Only q s s S S' := ⟨h.le,fun id h1 _ => h.eq id h1,fun _ ho => .inl ho⟩
structure Tld (H : Hd) (l : Nat) (vs : List (List HV)) (I : Nat → (Nat → Prop) → HS → Prop) (Stop : (Nat → Prop) → HS → Prop) : Prop where
 keep : ∀ i O S S',I i O S → (∀ id,O id → S'.heap id = S.heap id) → S.next ≤ S'.next → I i O S'
 keepS : ∀ O S S',Stop O S → (∀ id,O id → S'.heap id = S.heap id) → S.next ≤ S'.next → Stop O S'
 lt : ∀ i O S,I i O S → ∀ id,O id → id < S.next
 ltS : ∀ O S,Stop O S → ∀ id,O id → id < S.next
 step : ∀ i (hi : i < vs.length) O S,I i O S → ∃ b S' O',Option.bind (H l) (fun r => r vs[i] S) = some (.bool b,S') ∧ S.next ≤ S'.next ∧ (∀ id,id < S.next → ¬ O id → S'.heap id = S.heap id) ∧ (∀ id,O' id → O id ∨ S.next ≤ id) ∧ (b = true → I (i + 1) O' S') ∧ (b = false → Stop O' S')
def Tells (D : Dp) (fv : HV) (vs : List (List HV)) (K : Nat → Prop) (B : HS) : Prop :=
 ∀ (H : Hd) (l : Nat) (I : Nat → (Nat → Prop) → HS → Prop) (Stop : (Nat → Prop) → HS → Prop),Tld H l vs I Stop → ∀ (O : Nat → Prop) (S : HS),I 0 O S → (∀ id,K id → S.heap id = B.heap id ∧ ¬ O id ∧ id < S.next) →
  ∃ S' O',D H fv [.fn (.yield l) [] []] S = some (.tup [],S') ∧ S.next ≤ S'.next ∧ (∀ id,id < S.next → ¬ O id → S'.heap id = S.heap id) ∧ (∀ id,O' id → O id ∨ S.next ≤ id) ∧ (I vs.length O' S' ∨ Stop O' S')
structure Chg (O O' : Nat → Prop) (S S' : HS) : Prop where
 le : S.next ≤ S'.next
 eq : ∀ id,id < S.next → ¬ O id → S'.heap id = S.heap id
 own : ∀ id,O' id → O id ∨ S.next ≤ id
theorem Chg.refl (O : Nat → Prop) (S : HS) : Chg O O S S := ⟨Yaa _,fun _ _ _ => rfl,fun _ h => .inl h⟩
theorem Chg.trans {O O' O'' : Nat → Prop} {S S' S'' : HS} (h : Chg O O' S S') (k : Chg O' O'' S' S'') : Chg O O'' S S'' :=
 ⟨Ya2 h.le k.le,fun id h1 h2 => (k.eq id (Yai h1 h.le) (fun ho => (h.own id ho).elim h2 (fun h3 => by omega))).trans (h.eq id h1 h2),fun id ho => by
  rcases k.own id ho with h1 | h1
  ·exact h.own id h1
  ·have := h.le; exact .inr (by omega)⟩
theorem Chg.of_fr {O : Nat → Prop} {S S' : HS} (h : Fr S.next S S') : Chg O O S S' := ⟨h.le,fun id h1 _ => h.eq id h1,fun _ ho => .inl ho⟩
theorem Zz3 {D : Dp} {H : Hd} {fv : HV} {vs : List (List HV)} {K : Nat → Prop} {S : HS} {hd : List HV → HS → Option (HV × HS)} {bd : Nat → HS → Option (HV × HS)}
  (hT : Tells D fv vs K S) (hK : ∀ id,K id → id < S.next) (I : Nat → (Nat → Prop) → HS → Prop) (Q : Code → (Nat → Prop) → HS → Prop)
  (keepI : ∀ i O T T',I i O T → (∀ id,O id → T'.heap id = T.heap id) → T.next ≤ T'.next → I i O T')
  (keepQ : ∀ c O T T',Q c O T → (∀ id,O id → T'.heap id = T.heap id) → T.next ≤ T'.next → Q c O T')
  (O : Nat → Prop) (hO : ∀ id,O id → id < S.next) (hI : I 0 O S) (hOK : ∀ id,O id → ¬ K id)
  (hdef : ∀ i (hi : i < vs.length) T,T.heap (S.next + 1) = .loop .ready none → hd vs[i] T = bd i (T.put (S.next + 1) (.loop .busy none)))
  (step : ∀ i (hi : i < vs.length) O1 U,I i O1 U → S.next + 2 ≤ U.next → U.heap (S.next + 1) = .loop .busy none → ¬ O1 (S.next + 1) → (∀ id,O1 id → id < U.next) →
   ∃ U' O2 j,bd i U = U'.endr (S.next + 1) j ∧ Chg O1 O2 U U' ∧ (∀ id,O2 id → id < U'.next) ∧ (j = none → I (i + 1) O2 U') ∧ ∀ c,j = some c → Q c O2 U') :
  ∃ T st S' O',D (Hd.set H (S.next + 1) hd) fv [.fn (.yield (S.next + 1)) [] []] ((S.new .defer).new (.loop .ready none)) = some (.tup [],T) ∧ T.finish (S.next + 1) = some (st,S') ∧ S'.heap S.next = .defer ∧ S.next + 2 ≤ S'.next ∧
   Chg O O' S S' ∧ (∀ id,O' id → id ≠ S.next ∧ id ≠ S.next + 1 ∧ id < S'.next) ∧ (st = none → I vs.length O' S') ∧ (∀ c,st = some c → Q c O' S') := by
 have f2 : Fr S.next S ((S.new .defer).new (.loop .ready none)) := (Fr.new (Yaa _) _).trans (Fr.new (by rw [Zxz]; omega) _)
 have n2 : ((S.new .defer).new (.loop .ready none)).next = S.next + 2 := rfl
 have d2 : ((S.new .defer).new (.loop .ready none)).heap S.next = .defer := by rw [Zyn _ (by rw [Zxz]; omega)]; exact Zxv _ _
 have l2 : ((S.new .defer).new (.loop .ready none)).heap (S.next + 1) = .loop .ready none := Zxv (S.new .defer) _
 generalize (S.new .defer).new (.loop .ready none) = S0 at f2 n2 d2 l2 ⊢
 let J : Nat → (Nat → Prop) → HS → Prop := fun i OO T => ∃ O1,(∀ id,OO id ↔ (O1 id ∨ id = S.next ∨ id = S.next + 1)) ∧ (∀ id,O1 id → id ≠ S.next ∧ id ≠ S.next + 1 ∧ id < T.next ∧ (O id ∨ S.next + 2 ≤ id)) ∧ I i O1 T ∧ T.heap S.next = .defer ∧ T.heap (S.next + 1) = .loop .ready none ∧ S.next + 2 ≤ T.next
 let St : (Nat → Prop) → HS → Prop := fun OO T => ∃ O1 c,(∀ id,OO id ↔ (O1 id ∨ id = S.next ∨ id = S.next + 1)) ∧ (∀ id,O1 id → id ≠ S.next ∧ id ≠ S.next + 1 ∧ id < T.next ∧ (O id ∨ S.next + 2 ≤ id)) ∧ Q c O1 T ∧ T.heap S.next = .defer ∧ T.heap (S.next + 1) = .loop .done (some c) ∧ S.next + 2 ≤ T.next
 have hO' : ∀ id,O id → id ≠ S.next ∧ id ≠ S.next + 1 ∧ id < S0.next := fun id h => by have := hO id h; omega
 obtain ⟨T,O',e,t1,t2,t3,t4⟩ := hT (Hd.set H (S.next + 1) hd) (S.next + 1) J St (by
   refine ⟨fun i OO T T' h hk hn => ?_,fun OO T T' h hk hn => ?_,fun i OO T h id ho => ?_,fun OO T h id ho => ?_,fun i hi OO T h => ?_⟩
   ·obtain ⟨O1,a1,a2,a3,a4,a5,a6⟩ := h
    exact ⟨O1,a1,fun id ho => ⟨(a2 id ho).1,(a2 id ho).2.1,by have := (a2 id ho).2.2.1; omega,(a2 id ho).2.2.2⟩,keepI _ _ _ _ a3 (fun id ho => hk id ((a1 id).2 (.inl ho))) hn,(hk _ ((a1 _).2 (.inr (.inl rfl)))).trans a4,(hk _ ((a1 _).2 (.inr (.inr rfl)))).trans a5,by omega⟩
   ·obtain ⟨O1,c,a1,a2,a3,a4,a5,a6⟩ := h
    exact ⟨O1,c,a1,fun id ho => ⟨(a2 id ho).1,(a2 id ho).2.1,by have := (a2 id ho).2.2.1; omega,(a2 id ho).2.2.2⟩,keepQ _ _ _ _ a3 (fun id ho => hk id ((a1 id).2 (.inl ho))) hn,(hk _ ((a1 _).2 (.inr (.inl rfl)))).trans a4,(hk _ ((a1 _).2 (.inr (.inr rfl)))).trans a5,by omega⟩
   ·obtain ⟨O1,a1,a2,a3,a4,a5,a6⟩ := h
    rcases (a1 id).1 ho with g | g | g
    ·exact (a2 id g).2.2.1
    ·omega
    ·omega
   ·obtain ⟨O1,c,a1,a2,a3,a4,a5,a6⟩ := h
    rcases (a1 id).1 ho with g | g | g
    ·exact (a2 id g).2.2.1
    ·omega
    ·omega
   ·obtain ⟨O1,a1,a2,a3,a4,a5,a6⟩ := h
    simp only [Hd.set,if_true,obs]
    rw [hdef i hi T a5]
    have bk : ∀ id,id ≠ S.next + 1 → (T.put (S.next + 1) (.loop .busy none)).heap id = T.heap id := fun id h => Zxd _ h
    have bn : (T.put (S.next + 1) (.loop .busy none)).next = T.next := rfl
    have bl : (T.put (S.next + 1) (.loop .busy none)).heap (S.next + 1) = .loop .busy none := Zxs _ _ _
    generalize T.put (S.next + 1) (.loop .busy none) = U at bk bn bl ⊢
    obtain ⟨U',O2,j,e1,c1,l1,p1,p2⟩ := step i hi O1 U (keepI _ _ _ _ a3 (fun id ho => bk id (a2 id ho).2.1) (by omega)) (by omega) bl (fun h => (a2 _ h).2.1 rfl) (fun id h => by have := (a2 id h).2.2.1; omega)
    have ul : U'.heap (S.next + 1) = .loop .busy none := (c1.eq _ (by omega) (fun h => (a2 _ h).2.1 rfl)).trans bl
    have ud : U'.heap S.next = .defer := (c1.eq _ (by omega) (fun h => (a2 _ h).1 rfl)).trans ((bk _ (by omega)).trans a4)
    have hle := c1.le
    have h2 : ∀ id,O2 id → id ≠ S.next ∧ id ≠ S.next + 1 ∧ id < U'.next ∧ (O id ∨ S.next + 2 ≤ id) := fun id h => by
     rcases c1.own id h with g | g
     ·exact ⟨(a2 id g).1,(a2 id g).2.1,l1 id h,(a2 id g).2.2.2⟩
     ·exact ⟨by omega,by omega,l1 id h,.inr (by omega)⟩
    rw [e1,Zafj j ul]
    refine ⟨j.isNone,_,fun id => O2 id ∨ id = S.next ∨ id = S.next + 1,rfl,by rw [Zxr]; omega,fun id g1 g2 => ?_,fun id h => ?_,fun hj => ?_,fun hj => ?_⟩
    ·have g3 : ¬ O1 id := fun h => g2 ((a1 id).2 (.inl h))
     have g4 : id ≠ S.next + 1 := fun h => g2 ((a1 id).2 (.inr (.inr h)))
     rw [Zxd _ g4,c1.eq id (by omega) g3,bk id g4]
    ·rcases h with h | h
     ·rcases c1.own id h with g | g
      ·exact .inl ((a1 id).2 (.inl g))
      ·exact .inr (by omega)
     ·exact .inl ((a1 id).2 (.inr h))
    ·have hj' : j = none := by simpa using hj
     subst hj'
     exact ⟨O2,fun _ => Iff.rfl,h2,keepI _ _ _ _ (p1 rfl) (fun id h => Zxd _ (h2 id h).2.1) (Yaa _),by rw [Zxd _ (by omega)]; exact ud,Zxs _ _ _,by rw [Zxr]; omega⟩
    ·cases j with
     | none => cases hj
     | some c => exact ⟨O2,c,fun _ => Iff.rfl,h2,keepQ _ _ _ _ (p2 c rfl) (fun id h => Zxd _ (h2 id h).2.1) (Yaa _),by rw [Zxd _ (by omega)]; exact ud,Zxs _ _ _,by rw [Zxr]; omega⟩)
  (fun id => O id ∨ id = S.next ∨ id = S.next + 1) S0 ⟨O,fun _ => Iff.rfl,fun id h => ⟨(hO' id h).1,(hO' id h).2.1,(hO' id h).2.2,.inl h⟩,keepI _ _ _ _ hI (fun id h => f2.eq id (hO id h)) f2.le,d2,l2,by omega⟩ (fun id hid => ⟨f2.eq id (hK id hid),fun ho => by
   have := hK id hid
   rcases ho with g | g | g
   ·exact hOK id g hid
   ·omega
   ·omega,by have := hK id hid; omega⟩)
 have hfr : ∀ id,id < S.next → ¬ O id → T.heap id = S.heap id := fun id h1 h2 => (t2 id (by omega) (fun ho => by
  rcases ho with g | g | g
  ·exact h2 g
  ·omega
  ·omega)).trans (f2.eq id h1)
 rcases t4 with h | h
 ·obtain ⟨O1,a1,a2,a3,a4,a5,a6⟩ := h
  refine ⟨T,none,T.put (S.next + 1) (.loop .exhausted none),O1,e,by simp [HS.finish,a5],by rw [Zxd _ (by omega)]; exact a4,a6,⟨by rw [Zxr]; omega,fun id h1 h2 => by rw [Zxd _ (by omega)]; exact hfr id h1 h2,fun id h => (a2 id h).2.2.2.elim .inl (fun g => .inr (by omega))⟩,fun id h => ⟨(a2 id h).1,(a2 id h).2.1,(a2 id h).2.2.1⟩,fun _ => keepI _ _ _ _ a3 (fun id h => Zxd _ (a2 id h).2.1) (Yaa _),fun c hc => by cases hc⟩
 ·obtain ⟨O1,c,a1,a2,a3,a4,a5,a6⟩ := h
  refine ⟨T,some c,T.put (S.next + 1) (.loop .exhausted (some c)),O1,e,by simp [HS.finish,a5],by rw [Zxd _ (by omega)]; exact a4,a6,⟨by rw [Zxr]; omega,fun id h1 h2 => by rw [Zxd _ (by omega)]; exact hfr id h1 h2,fun id h => (a2 id h).2.2.2.elim .inl (fun g => .inr (by omega))⟩,fun id h => ⟨(a2 id h).1,(a2 id h).2.1,(a2 id h).2.2.1⟩,fun hc => (by cases hc),fun c' hc => ?_⟩
  cases hc
  exact keepQ _ _ _ _ a3 (fun id h => Zxd _ (a2 id h).2.1) (Yaa _)
namespace KI
abbrev Ky := Int
def kv (k : Ky) : HV := .int .i64 k
def klt (a b : Ky) : Bool := decide (a < b)
theorem klt_irrefl (a : Ky) : klt a a = false := by simp [klt]
theorem klt_trans {a b c : Ky} (h1 : klt a b = true) (h2 : klt b c = true) : klt a c = true := by simp only [klt,decide_eq_true_eq] at *; exact Int.lt_trans h1 h2
theorem klt_tri (a b : Ky) : klt a b = true ∨ a = b ∨ klt b a = true := by simp only [klt,decide_eq_true_eq]; exact Int.lt_trichotomy a b
def row1 (k : Ky) : List HV := [kv k]
theorem ldK_at {S : HS} {s : Sl} {xs : List Ky} (h : S.rows s 1 = some (xs.map row1)) {i : Nat} (hi : i < xs.length) : ∃ ad,S.idx s (i : Int) 1 = some ad ∧ S.ldI .i64 ad = some xs[i] := by
 obtain ⟨ad,h1,h2⟩ := Zaer h (i := i) (v := kv xs[i]) (by simpa using hi) (by rw [Yaj]; rfl)
 exact ⟨ad,h1,by rw [HS.ldI,h2]; simp [dI,kv]⟩
theorem less_spec (a b : Ky) : Y57.f a b = some (klt a b) := by
 have h : ∀ x,Y7.f x = some false := fun x => by simp [Y7.f]
 rw [Y57.f,h,obs,if_neg (by simp),Y57.J0,if_neg (by simp),Y57.J1]
 rfl
def Srt (es : List Ky) : Prop := es.Pairwise fun a b => klt a b = true
theorem Srt.lt {es : List Ky} (h : Srt es) {i j : Nat} (hi : i < es.length) (hj : j < es.length) (hij : i < j) : klt es[i] es[j] = true := Yap.1 h i j hi hj hij
structure PosOf (es : List Ky) (t : Ky) (p : Nat) : Prop where
 le : p ≤ es.length
 lo : ∀ q (hq : q < es.length),q < p → klt es[q] t = true
 hi : ∀ q (hq : q < es.length),p ≤ q → klt es[q] t = false
theorem PosOf.gt {es : List Ky} {t : Ky} {p : Nat} (h : PosOf es t p) (hs : Srt es) (hf : t ∉ es) {q : Nat} (hq : q < es.length) (hpq : p ≤ q) : klt t es[q] = true := by
 have h1 := h.hi q hq hpq
 rcases klt_tri es[q] t with g | g | g
 ·rw [h1] at g; cases g
 ·exact absurd (g ▸ Yae hq) hf
 ·exact g
theorem PosOf.here {es : List Ky} {t : Ky} {p : Nat} (h : PosOf es t p) (hs : Srt es) (hm : t ∈ es) : ∃ hp : p < es.length,es[p] = t := by
 obtain ⟨q,hq,he⟩ := Yag hm
 have hqp : p ≤ q := by
  rcases Yan q p with g | g
  ·have := h.lo q hq g; rw [he,klt_irrefl] at this; cases this
  ·exact g
 have hp : p < es.length := by omega
 refine ⟨hp,?_⟩
 rcases Nat.eq_or_lt_of_le hqp with g | g
 ·subst g; exact he
 ·have h1 := hs.lt hp hq g
  rw [he] at h1
  rw [h.hi p hp (Yaa _)] at h1; cases h1
theorem ins_srt {es : List Ky} {t : Ky} {p : Nat} (h : PosOf es t p) (hs : Srt es) (hf : t ∉ es) : Srt (es.take p ++ [t] ++ es.drop p) := by
 unfold Srt
 rw [Ya8,Yad]
 refine ⟨List.Pairwise.sublist (List.take_sublist _ _) hs,?_,fun a ha b hb => ?_⟩
 ·rw [List.singleton_append,Yah]
  refine ⟨fun b hb => ?_,List.Pairwise.sublist (List.drop_sublist _ _) hs⟩
  obtain ⟨q,hq,rfl⟩ := Yag hb
  rw [Yat]
  exact h.gt hs hf _ (by omega)
 ·obtain ⟨q,hq,rfl⟩ := Yag ha
  rw [Yar] at hq
  rw [Ybl]
  have h1 := h.lo q (by omega) (by omega)
  rcases Yab.1 hb with hb | hb
  ·simp only [Yaq] at hb
   subst hb; exact h1
  ·obtain ⟨q2,hq2,rfl⟩ := Yag hb
   rw [Yat]
   rw [Ya1] at hq2
   exact hs.lt (by omega) (by omega) (by omega)
theorem ins_mem {es : List Ky} {t : Ky} {p : Nat} (v : Ky) : v ∈ es.take p ++ [t] ++ es.drop p ↔ v ∈ es ∨ v = t := by
 simp only [Yab,Yaq]
 constructor
 ·rintro ((h | h) | h)
  ·exact .inl (Ybj h)
  ·exact .inr h
  ·exact .inl (Ybk h)
 ·rintro (h | h)
  ·rw [← Yas p es,Yab] at h
   rcases h with h | h
   ·exact .inl (.inl h)
   ·exact .inr h
  ·exact .inl (.inr h)
theorem erase_srt {es : List Ky} (hs : Srt es) (p : Nat) : Srt (es.eraseIdx p) := List.Pairwise.sublist (List.eraseIdx_sublist _ _) hs
theorem erase_mem {es : List Ky} (hs : Srt es) {p : Nat} (hp : p < es.length) (v : Ky) : v ∈ es.eraseIdx p ↔ v ∈ es ∧ v ≠ es[p] := by
 rw [List.mem_eraseIdx_iff_getElem]
 constructor
 ·rintro ⟨q,hq,hne,rfl⟩
  refine ⟨Yae hq,fun he => ?_⟩
  rcases Yan q p with g | g
  ·have := hs.lt hq hp g; rw [he,klt_irrefl] at this; cases this
  ·have := hs.lt hp hq (by omega); rw [he,klt_irrefl] at this; cases this
 ·rintro ⟨hm,hne⟩
  obtain ⟨q,hq,rfl⟩ := Yag hm
  exact ⟨q,hq,fun e => hne (by subst e; rfl),rfl⟩
theorem srt_ext : ∀ {a b : List Ky},Srt a → Srt b → (∀ v,v ∈ a ↔ v ∈ b) → a = b := by
 intro a
 induction a with
 | nil =>
  intro b _ _ h
  cases b with
  | nil => rfl
  | cons y b => exact absurd ((h y).2 (by simp)) (by simp)
 | cons x a ih =>
  intro b ha hb h
  cases b with
  | nil => exact absurd ((h x).1 (by simp)) (by simp)
  | cons y b =>
   have ha' := Yah.1 ha
   have hb' := Yah.1 hb
   have hxy : x = y := by
    rcases Yac.1 ((h x).1 (by simp)) with g | g
    ·exact g
    ·rcases Yac.1 ((h y).2 (by simp)) with g2 | g2
     ·exact g2.symm
     ·have h1 := hb'.1 x g
      have h2 := ha'.1 y g2
      have := klt_trans h1 h2
      rw [klt_irrefl] at this; cases this
   subst hxy
   congr 1
   refine ih ha'.2 hb'.2 fun v => ?_
   have h1 := h v
   simp only [Yac] at h1
   constructor
   ·intro hv
    rcases h1.1 (.inr hv) with g | g
    ·subst g; have := ha'.1 v hv; rw [klt_irrefl] at this; cases this
    ·exact g
   ·intro hv
    rcases h1.2 (.inr hv) with g | g
    ·subst g; have := hb'.1 v hv; rw [klt_irrefl] at this; cases this
    ·exact g
theorem bs_spec {k : Nat} {S : HS} {s : Sl} {es : List Ky} {t : Ky} (hk : 2000 ≤ k) (hs : Srt es) (hle : es.length ≤ 1000) (hr : S.rows s 1 = some (es.map row1)) :
  ∃ p : Nat,Y10.f k s t S = some (((p : Int),decide (t ∈ es)),S) ∧ PosOf es t p := by
 have hsl : (s.len : Int) = es.length := by rw [← Zx3 hr]; simp
 have hloop : ∀ (n i j : Nat),j - i < n → i ≤ j → j ≤ es.length → (∀ q (hq : q < es.length),q < i → klt es[q] t = true) → (∀ q (hq : q < es.length),j ≤ q → klt es[q] t = false) →
   ∃ p : Nat,Y10.L0 k n s t (es.length : Int) (i : Int) (j : Int) S = some (((p : Int),decide (t ∈ es)),S) ∧ PosOf es t p := by
  intro n
  induction n with
  | zero => intro i j h; omega
  | succ n ih =>
   intro i j hf hij hj hlo hhi
   rw [Y10.L0]
   by_cases hlt : i < j
   ·rw [if_pos (by omega),Zagk (by omega)]
    have hm : (i + j) / 2 < es.length := by omega
    obtain ⟨ad,a1,a2⟩ := ldK_at hr hm
    rw [a1,obs,a2,obs,less_spec,obs]
    cases hc : klt es[(i + j) / 2] t with
    | true =>
     rw [if_pos rfl,Zx2 (by omega) (by omega),show ((((i + j) / 2 : Nat) : Int) + 1) = (((i + j) / 2 + 1 : Nat) : Int) by simp]
     exact ih ((i + j) / 2 + 1) j (by omega) (by omega) hj (fun q hq hqi => by
      rcases Yan q ((i + j) / 2) with h | h
      ·exact klt_trans (hs.lt hq hm h) hc
      ·obtain rfl : q = (i + j) / 2 := by omega
       exact hc) hhi
    | false =>
     rw [if_neg (by simp)]
     exact ih i ((i + j) / 2) (by omega) (by omega) (by omega) hlo (fun q hq hqi => by
      rcases Yan ((i + j) / 2) q with h | h
      ·cases h2 : klt es[q] t with
       | false => rfl
       | true => have := klt_trans (hs.lt hm hq h) h2; rw [hc] at this; cases this
      ·obtain rfl : q = (i + j) / 2 := by omega
       exact hc)
   ·obtain rfl : i = j := by omega
    rw [if_neg (by omega)]
    have hp : PosOf es t i := ⟨hj,hlo,hhi⟩
    refine ⟨i,?_,hp⟩
    by_cases hend : i < es.length
    ·obtain ⟨ad,a1,a2⟩ := ldK_at hr hend
     rw [if_pos (by omega),a1,obs,a2,obs]
     by_cases he : es[i] = t
     ·rw [if_pos he,Y10.J1,if_pos (by simpa using hend),Y10.J2,decide_eq_true (he ▸ Yae hend)]
     ·have hno : t ∉ es := fun hm => by
       obtain ⟨_,h2⟩ := hp.here hs hm
       exact he h2
      rw [if_neg he,obs,a2,obs,show Y43.f es[i] = some false by simp [Y43.f],obs,if_neg (by simp),Y10.J3,if_pos (by simpa using hend),if_neg (by simpa using he),Y10.J1,if_pos (by simpa using hend),Y10.J2,decide_eq_false hno]
    ·have hno : t ∉ es := fun hm => by
      obtain ⟨h1,_⟩ := hp.here hs hm
      exact hend h1
     rw [if_neg (by omega),Y10.J2,decide_eq_false hno]
 rw [Y10.f,hsl]
 exact hloop k 0 es.length (by omega) (Yak _) (Yaa _) (fun q hq h => by omega) (fun q hq h => by omega)
structure SI (p : Nat) (s : Sl) (xs : List Ky) (S : HS) : Prop where
 cell : S.heap p = .cells 1 [[s.hv]] true
 ov : OV S 1 s (xs.map row1)
 ne : ∀ q,s.a = some q → q.1 ≠ p
 hi : p < S.next
 srt : Srt xs
 cnt : xs.length ≤ 1000
theorem SI.lt {p : Nat} {s : Sl} {xs : List Ky} {S : HS} (h : SI p s xs S) {id : Nat} (ho : Own p s id) : id < S.next := by
 rcases ho with rfl | ⟨q,h1,rfl⟩
 ·exact h.hi
 ·exact h.ov.lt h1
theorem SI.keep {p : Nat} {s : Sl} {xs : List Ky} {S S' : HS} (h : SI p s xs S) (he : ∀ id,Own p s id → S'.heap id = S.heap id) (hn : S.next ≤ S'.next) : SI p s xs S' :=
 ⟨(he p (.inl rfl)).trans h.cell,h.ov.keep (fun q hq => he q.1 (.inr ⟨q,hq,rfl⟩)) hn,h.ne,Yai h.hi hn,h.srt,h.cnt⟩
theorem SI.fr {p : Nat} {s : Sl} {xs : List Ky} {S S' : HS} (h : SI p s xs S) (hf : Fr S.next S S') : SI p s xs S' := h.keep (fun id ho => hf.eq id (h.lt ho)) hf.le
theorem SI.ld {p : Nat} {s : Sl} {xs : List Ky} {S : HS} (h : SI p s xs S) : S.ldSl (HA.fld (HA.cell0 p) 0) = some s := Zy2 (Zxu h.cell) rfl rfl
theorem SI.slen {p : Nat} {s : Sl} {xs : List Ky} {S : HS} (h : SI p s xs S) : (s.len : Int) = xs.length := by rw [h.ov.len]; simp
theorem set_put {p : Nat} {s s' : Sl} {S : HS} (h : S.heap p = .cells 1 [[s.hv]] true) : S.sets (HA.fld (HA.cell0 p) 0) [s'.hv] = some (S.put p (.cells 1 [[s'.hv]] true)) := (Zyo h rfl (by simp)).trans rfl
theorem ins_spec {p : Nat} {s : Sl} {xs : List Ky} {S : HS} (h : SI p s xs S) {t : Ky} {i : Nat} (hp : PosOf xs t i) (hno : t ∉ xs) (hroom : xs.length < 1000) :
  ∃ s' S' S1,Y97.f s (i : Int) (S.lit [[.int .i64 t]] 1).1 (S.lit [[.int .i64 t]] 1).2 = some (s',S1) ∧ S1.sets (HA.fld (HA.cell0 p) 0) [s'.hv] = some S' ∧ SI p s' (xs.take i ++ [t] ++ xs.drop i) S' ∧ Only p s s' S S' := by
 obtain ⟨s',S1,a1,a2,a3,a4,a5⟩ := Zagi (row := row1 t) h.ov (i := i) (by simpa using hp.le) (by simp; omega)
 have hcell : S1.heap p = .cells 1 [[s.hv]] true := by rw [a4 p h.hi h.ne]; exact h.cell
 have hne' : ∀ q,s'.a = some q → q.1 ≠ p := fun q hq => by have := a5 q hq; have := h.hi; omega
 refine ⟨s',_,S1,a1,set_put hcell,⟨Zxs _ _ _,?_,hne',Yai h.hi a3,ins_srt hp h.srt hno,by simp; omega⟩,⟨by rw [Zxr]; exact a3,fun id g1 g2 => ?_,fun id ho => ?_⟩⟩
 ·have hm : (xs.take i ++ [t] ++ xs.drop i).map row1 = (xs.map row1).take i ++ [row1 t] ++ (xs.map row1).drop i := by simp only [Yau,List.map_take,List.map_drop,List.map_cons,List.map_nil]
  rw [hm]
  exact a2.keep (fun q hq => Zxd _ (hne' q hq)) (Yaa _)
 ·rw [Zxd _ (fun e => g2 (.inl e))]
  exact a4 id g1 (fun q hq e => g2 (.inr ⟨q,hq,e⟩))
 ·rcases ho with g | ⟨q,g1,g2⟩
  ·exact .inl (.inl g)
  ·right; rw [← g2]; exact a5 q g1
theorem del_spec {p : Nat} {s : Sl} {xs : List Ky} {S : HS} (h : SI p s xs S) {i : Nat} (hi : i < xs.length) :
  ∃ s' S' S1,Y105.f s (i : Int) ((i + 1 : Nat) : Int) S = some (s',S1) ∧ S1.sets (HA.fld (HA.cell0 p) 0) [s'.hv] = some S' ∧ SI p s' (xs.eraseIdx i) S' ∧ Only p s s' S S' := by
 have hcnt := h.cnt
 obtain ⟨s',S1,a1,a2,a3,a4,a5⟩ := Zagj h.ov (i := i) (by simpa using hi) (by simp; omega)
 have hcell : S1.heap p = .cells 1 [[s.hv]] true := by rw [a4 p h.hi h.ne]; exact h.cell
 have hne' : ∀ q,s'.a = some q → q.1 ≠ p := fun q hq => by have := a5 q hq; have := h.hi; omega
 refine ⟨s',_,S1,a1,set_put hcell,⟨Zxs _ _ _,?_,hne',Yai h.hi a3,erase_srt h.srt i,by rw [List.length_eraseIdx,if_pos hi]; omega⟩,⟨by rw [Zxr]; exact a3,fun id g1 g2 => ?_,fun id ho => ?_⟩⟩
 ·rw [Go.ChangeMaps.map_eraseIdx]
  exact a2.keep (fun q hq => Zxd _ (hne' q hq)) (Yaa _)
 ·rw [Zxd _ (fun e => g2 (.inl e))]
  exact a4 id g1 (fun q hq e => g2 (.inr ⟨q,hq,e⟩))
 ·rcases ho with g | ⟨q,g1,g2⟩
  ·exact .inl (.inl g)
  ·right; rw [← g2]; exact a5 q g1
theorem add_spec {k p : Nat} {s sl : Sl} {xs ls : List Ky} {S : HS} (hk : 2000 ≤ k) (h : SI p s xs S) (hr : S.rows sl 1 = some (ls.map row1)) (hlt : ∀ q,sl.a = some q → q.1 < S.next ∧ ¬ Own p s q.1) (hc : xs.length + ls.length ≤ 1000) :
  ∃ s' xs' S',Y8.f k (some (HA.cell0 p)) sl S = some ((xs'.length : Int) - xs.length,S') ∧ SI p s' xs' S' ∧ Only p s s' S S' ∧ (∀ v,v ∈ xs' ↔ v ∈ xs ∨ v ∈ ls) ∧ xs.length ≤ xs'.length ∧ xs'.length ≤ xs.length + ls.length := by
 have hsl : (sl.len : Int) = ls.length := by rw [← Zx3 hr]; simp
 have hloop : ∀ (f i : Nat) (T : HS) (s1 : Sl) (ys : List Ky),ls.length - i < f → i ≤ ls.length → SI p s1 ys T → Only p s s1 S T → (∀ v,v ∈ ys ↔ v ∈ xs ∨ v ∈ ls.take i) → xs.length ≤ ys.length → ys.length ≤ xs.length + i →
   ∃ s' xs' S',Y8.L0 k f (some (HA.cell0 p)) ((ys.length : Int) - xs.length) sl (ls.length : Int) (i : Int) T = some ((xs'.length : Int) - xs.length,S') ∧ SI p s' xs' S' ∧ Only p s s' S S' ∧ (∀ v,v ∈ xs' ↔ v ∈ xs ∨ v ∈ ls) ∧ xs.length ≤ xs'.length ∧ xs'.length ≤ xs.length + ls.length := by
  intro f
  induction f with
  | zero => intro i T s1 ys h; omega
  | succ f ih =>
   intro i T s1 ys hf hi hT hO hm hge hle
   have hrT : T.rows sl 1 = some (ls.map row1) := Zx1 hr fun q hq => hO.eq q.1 (hlt q hq).1 (hlt q hq).2
   rw [Y8.L0]
   by_cases hil : i < ls.length
   ·obtain ⟨ad,a1,a2⟩ := ldK_at hrT hil
    obtain ⟨j,b1,hp⟩ := bs_spec (t := ls[i]) hk hT.srt hT.cnt hT.ov.rows
    have hmem : ∀ v,(v ∈ ls.take (i + 1) ↔ v ∈ ls.take i ∨ v = ls[i]) := fun v => by rw [Yaf hil,Yab,Yaq]
    rw [if_pos (by omega),a1,obs,a2,obs,obs,hT.ld,obs,b1,obs]
    simp only
    by_cases hin : ls[i] ∈ ys
    ·rw [decide_eq_true hin,if_neg (by simp),Y8.J1,Zx2 (by omega) (by omega),show ((i : Int) + 1) = ((i + 1 : Nat) : Int) by simp]
     refine ih (i + 1) T s1 ys (by omega) (by omega) hT hO (fun v => ?_) hge (by omega)
     rw [hmem,← or_assoc,← hm]
     exact ⟨fun h => .inl h,fun h => h.elim id (fun e => e ▸ hin)⟩
    ·obtain ⟨s2,T2,T1,c1,c2,c3,c4⟩ := ins_spec hT hp hin (by omega)
     have hlen : (ys.take j ++ [ls[i]] ++ ys.drop j).length = ys.length + 1 := by
      have := hp.le
      simp only [Ya3,Yar,Ya1,List.length_singleton]; omega
     rw [decide_eq_false hin,if_pos (by simp),obs,hT.ld,obs,letv,c1,obs,obs,c2,obs,Y8.J1,Zx2 (n := (i : Int) + 1) (by omega) (by omega),show ((i : Int) + 1) = ((i + 1 : Nat) : Int) by simp,Zx2 (by omega) (by omega)]
     have e : (ys.length : Int) - xs.length + 1 = ((ys.take j ++ [ls[i]] ++ ys.drop j).length : Int) - xs.length := by rw [hlen]; omega
     rw [e]
     refine ih (i + 1) T2 s2 _ (by omega) (by omega) c3 (hO.trans c4) (fun v => ?_) (by omega) (by omega)
     rw [ins_mem,hmem,← or_assoc,← hm]
   ·obtain rfl : i = ls.length := by omega
    rw [if_neg (by omega)]
    rw [Yao] at hm
    exact ⟨s1,ys,T,rfl,hT,hO,hm,hge,hle⟩
 rw [Y8.f,if_neg (by simp),hsl]
 have := hloop k 0 S s xs (by omega) (Yak _) h (Only.refl _ _ _) (fun v => by simp) (Yaa _) (by omega)
 rw [show ((xs.length : Int) - xs.length) = 0 by omega] at this
 exact this
theorem remove_spec {k p : Nat} {s sl : Sl} {xs ls : List Ky} {S : HS} (hk : 2000 ≤ k) (h : SI p s xs S) (hr : S.rows sl 1 = some (ls.map row1)) (hlt : ∀ q,sl.a = some q → q.1 < S.next ∧ ¬ Own p s q.1) (hc : ls.length ≤ 1000) :
  ∃ s' xs' S',Y21.f k (some (HA.cell0 p)) sl S = some ((xs.length : Int) - xs'.length,S') ∧ SI p s' xs' S' ∧ Only p s s' S S' ∧ (∀ v,v ∈ xs' ↔ v ∈ xs ∧ v ∉ ls) ∧ xs'.length ≤ xs.length := by
 have hsl : (sl.len : Int) = ls.length := by rw [← Zx3 hr]; simp
 have hcnt := h.cnt
 have hloop : ∀ (f i : Nat) (T : HS) (s1 : Sl) (ys : List Ky),ls.length - i < f → i ≤ ls.length → SI p s1 ys T → Only p s s1 S T → (∀ v,v ∈ ys ↔ v ∈ xs ∧ v ∉ ls.take i) → ys.length ≤ xs.length →
   ∃ s' xs' S',Y21.L0 k f (some (HA.cell0 p)) ((xs.length : Int) - ys.length) sl (ls.length : Int) (i : Int) T = some ((xs.length : Int) - xs'.length,S') ∧ SI p s' xs' S' ∧ Only p s s' S S' ∧ (∀ v,v ∈ xs' ↔ v ∈ xs ∧ v ∉ ls) ∧ xs'.length ≤ xs.length := by
  intro f
  induction f with
  | zero => intro i T s1 ys h; omega
  | succ f ih =>
   intro i T s1 ys hf hi hT hO hm hle
   have hrT : T.rows sl 1 = some (ls.map row1) := Zx1 hr fun q hq => hO.eq q.1 (hlt q hq).1 (hlt q hq).2
   rw [Y21.L0]
   by_cases hil : i < ls.length
   ·obtain ⟨ad,a1,a2⟩ := ldK_at hrT hil
    obtain ⟨j,b1,hp⟩ := bs_spec (t := ls[i]) hk hT.srt hT.cnt hT.ov.rows
    have hmem : ∀ v,(v ∉ ls.take (i + 1) ↔ v ∉ ls.take i ∧ v ≠ ls[i]) := fun v => by rw [Yaf hil,Yab,Yaq,not_or]
    rw [if_pos (by omega),a1,obs,a2,obs,obs,hT.ld,obs,b1,obs]
    simp only
    by_cases hin : ls[i] ∈ ys
    ·obtain ⟨hj,he⟩ := hp.here hT.srt hin
     obtain ⟨s2,T2,T1,c1,c2,c3,c4⟩ := del_spec hT hj
     have hlen : (ys.eraseIdx j).length = ys.length - 1 := by rw [List.length_eraseIdx,if_pos hj]
     rw [decide_eq_true hin,if_pos rfl,obs,hT.ld,obs,Zx2 (n := (j : Int) + 1) (by omega) (by omega),show ((j : Int) + 1) = ((j + 1 : Nat) : Int) by simp,c1,obs,obs,c2,obs,Y21.J1,Zx2 (n := (i : Int) + 1) (by omega) (by omega),show ((i : Int) + 1) = ((i + 1 : Nat) : Int) by simp,Zx2 (by omega) (by omega)]
     have e : (xs.length : Int) - ys.length + 1 = (xs.length : Int) - ((ys.eraseIdx j).length : Int) := by rw [hlen]; omega
     rw [e]
     refine ih (i + 1) T2 s2 _ (by omega) (by omega) c3 (hO.trans c4) (fun v => ?_) (by omega)
     rw [erase_mem hT.srt hj,hmem,← and_assoc,← hm,he]
    ·rw [decide_eq_false hin,if_neg (by simp),Y21.J1,Zx2 (by omega) (by omega),show ((i : Int) + 1) = ((i + 1 : Nat) : Int) by simp]
     refine ih (i + 1) T s1 ys (by omega) (by omega) hT hO (fun v => ?_) hle
     rw [hmem,← and_assoc,← hm]
     exact ⟨fun h => ⟨h,fun e => hin (e ▸ h)⟩,fun h => h.1⟩
   ·obtain rfl : i = ls.length := by omega
    rw [if_neg (by omega)]
    rw [Yao] at hm
    exact ⟨s1,ys,T,rfl,hT,hO,hm,hle⟩
 rw [Y21.f,if_neg (by simp),hsl]
 have := hloop k 0 S s xs (by omega) (Yak _) h (Only.refl _ _ _) (fun v => by simp) (Yaa _)
 rw [show ((xs.length : Int) - xs.length) = 0 by omega] at this
 exact this
theorem len_spec {p : Nat} {s : Sl} {xs : List Ky} {S : HS} (h : SI p s xs S) : Y72.f (some (HA.cell0 p)) S = some ((xs.length : Int),S) := by
 rw [Y72.f,if_neg (by simp),obs,h.ld,obs,h.slen]
theorem of_spec {k : Nat} {sl : Sl} {ls : List Ky} {S : HS} (hk : 2000 ≤ k) (hr : Rd S.next S 1 sl (ls.map row1)) (hc : ls.length ≤ 1000) :
  ∃ s' xs' S',Y19.f k sl S = some (some (HA.cell0 S.next),S') ∧ SI S.next s' xs' S' ∧ Fr S.next S S' ∧ (∀ id,Own S.next s' id → S.next ≤ id) ∧ (∀ v,v ∈ xs' ↔ v ∈ ls) ∧ xs'.length ≤ ls.length := by
 have fn : Fr S.next S (S.new (.cells 1 [[Sl.nil.hv]] true)) := Fr.new (Yaa _) _
 have h0 : SI S.next Sl.nil [] (S.new (.cells 1 [[Sl.nil.hv]] true)) := ⟨Zxv _ _,.inl ⟨rfl,rfl,rfl⟩,fun q hq => (by cases hq),Yaw _,List.Pairwise.nil,by simp⟩
 have nn : (S.new (.cells 1 [[Sl.nil.hv]] true)).next = S.next + 1 := rfl
 obtain ⟨s',xs',S',e,g1,g2,g3,g4,g5⟩ := add_spec hk h0 (hr.frame fn (Yaa _)).rows (fun q hq => ⟨by have := hr.lt q hq; omega,fun ho => by
  rcases ho with g | ⟨q',g,_⟩
  ·have := hr.lt q hq; omega
  ·cases g⟩) (by simpa using hc)
 rw [Y19.f,letv,e,obs]
 refine ⟨s',xs',S',rfl,g1,⟨by have := g2.le; omega,fun id hid => ?_⟩,fun id ho => ?_,fun v => by rw [g3]; simp,by simpa using g5⟩
 ·rw [g2.eq id (by omega) (fun ho => by
   rcases ho with g | ⟨q',g,_⟩
   ·omega
   ·cases g)]
  exact fn.eq id hid
 ·rcases g2.own id ho with g | g
  ·rcases g with g | ⟨q',g,_⟩
   ·omega
   ·cases g
  ·omega
end KI
namespace KS
abbrev Ky := List UInt8
def kv (k : Ky) : HV := .str k
def klt (a b : Ky) : Bool := slt a b
theorem klt_irrefl : ∀ (x : Ky),klt x x = false := by
 intro x
 unfold klt
 induction x with
 | nil => rfl
 | cons a x ih => simp [slt,ih]
theorem klt_trans : ∀ {a b c : Ky},klt a b = true → klt b c = true → klt a c = true := by
 unfold klt
 intro a
 induction a with
 | nil => intro b c h1 h2; cases c with
  | nil => cases b <;> simp [slt] at h2
  | cons z c => rfl
 | cons x a ih =>
  intro b c h1 h2
  cases b with
  | nil => simp [slt] at h1
  | cons y b =>
   cases c with
   | nil => simp [slt] at h2
   | cons z c =>
    simp only [slt,Bool.or_eq_true,decide_eq_true_eq,Bool.and_eq_true,beq_iff_eq] at *
    rcases h1 with h1 | ⟨h1,h1'⟩
    ·rcases h2 with h2 | ⟨h2,_⟩
     ·exact .inl (UInt8.lt_trans h1 h2)
     ·exact .inl (h2 ▸ h1)
    ·rcases h2 with h2 | ⟨h2,h2'⟩
     ·exact .inl (h1 ▸ h2)
     ·exact .inr ⟨h1.trans h2,ih h1' h2'⟩
theorem klt_tri : ∀ (a b : Ky),klt a b = true ∨ a = b ∨ klt b a = true := by
 unfold klt
 intro a
 induction a with
 | nil => intro b; cases b with
  | nil => exact .inr (.inl rfl)
  | cons y b => exact .inl rfl
 | cons x a ih =>
  intro b
  cases b with
  | nil => exact .inr (.inr rfl)
  | cons y b =>
   simp only [slt,Bool.or_eq_true,decide_eq_true_eq,Bool.and_eq_true,beq_iff_eq,List.cons.injEq]
   rcases Nat.lt_trichotomy x.toNat y.toNat with h | h | h
   ·exact .inl (.inl (UInt8.lt_iff_toNat_lt.2 h))
   ·have hxy := UInt8.toNat_inj.1 h
    rcases ih b with g | g | g
    ·exact .inl (.inr ⟨hxy,g⟩)
    ·exact .inr (.inl ⟨hxy,g⟩)
    ·exact .inr (.inr (.inr ⟨hxy.symm,g⟩))
   ·exact .inr (.inr (.inl (UInt8.lt_iff_toNat_lt.2 h)))
def row1 (k : Ky) : List HV := [kv k]
theorem ldK_at {S : HS} {s : Sl} {xs : List Ky} (h : S.rows s 1 = some (xs.map row1)) {i : Nat} (hi : i < xs.length) : ∃ ad,S.idx s (i : Int) 1 = some ad ∧ S.ldS ad = some xs[i] := by
 obtain ⟨ad,h1,h2⟩ := Zaer h (i := i) (v := kv xs[i]) (by simpa using hi) (by rw [Yaj]; rfl)
 exact ⟨ad,h1,by rw [HS.ldS,h2]; simp [dS,kv]⟩
theorem less_spec (a b : Ky) : Y54.f a b = some (klt a b) := by
 have h : ∀ x,Y40.f x = some false := fun x => by simp [Y40.f]
 rw [Y54.f,h,obs,if_neg (by simp),Y54.J0,if_neg (by simp),Y54.J1]
 rfl
def Srt (es : List Ky) : Prop := es.Pairwise fun a b => klt a b = true
theorem Srt.lt {es : List Ky} (h : Srt es) {i j : Nat} (hi : i < es.length) (hj : j < es.length) (hij : i < j) : klt es[i] es[j] = true := Yap.1 h i j hi hj hij
structure PosOf (es : List Ky) (t : Ky) (p : Nat) : Prop where
 le : p ≤ es.length
 lo : ∀ q (hq : q < es.length),q < p → klt es[q] t = true
 hi : ∀ q (hq : q < es.length),p ≤ q → klt es[q] t = false
theorem PosOf.gt {es : List Ky} {t : Ky} {p : Nat} (h : PosOf es t p) (hs : Srt es) (hf : t ∉ es) {q : Nat} (hq : q < es.length) (hpq : p ≤ q) : klt t es[q] = true := by
 have h1 := h.hi q hq hpq
 rcases klt_tri es[q] t with g | g | g
 ·rw [h1] at g; cases g
 ·exact absurd (g ▸ Yae hq) hf
 ·exact g
theorem PosOf.here {es : List Ky} {t : Ky} {p : Nat} (h : PosOf es t p) (hs : Srt es) (hm : t ∈ es) : ∃ hp : p < es.length,es[p] = t := by
 obtain ⟨q,hq,he⟩ := Yag hm
 have hqp : p ≤ q := by
  rcases Yan q p with g | g
  ·have := h.lo q hq g; rw [he,klt_irrefl] at this; cases this
  ·exact g
 have hp : p < es.length := by omega
 refine ⟨hp,?_⟩
 rcases Nat.eq_or_lt_of_le hqp with g | g
 ·subst g; exact he
 ·have h1 := hs.lt hp hq g
  rw [he] at h1
  rw [h.hi p hp (Yaa _)] at h1; cases h1
theorem ins_srt {es : List Ky} {t : Ky} {p : Nat} (h : PosOf es t p) (hs : Srt es) (hf : t ∉ es) : Srt (es.take p ++ [t] ++ es.drop p) := by
 unfold Srt
 rw [Ya8,Yad]
 refine ⟨List.Pairwise.sublist (List.take_sublist _ _) hs,?_,fun a ha b hb => ?_⟩
 ·rw [List.singleton_append,Yah]
  refine ⟨fun b hb => ?_,List.Pairwise.sublist (List.drop_sublist _ _) hs⟩
  obtain ⟨q,hq,rfl⟩ := Yag hb
  rw [Yat]
  exact h.gt hs hf _ (by omega)
 ·obtain ⟨q,hq,rfl⟩ := Yag ha
  rw [Yar] at hq
  rw [Ybl]
  have h1 := h.lo q (by omega) (by omega)
  rcases Yab.1 hb with hb | hb
  ·simp only [Yaq] at hb
   subst hb; exact h1
  ·obtain ⟨q2,hq2,rfl⟩ := Yag hb
   rw [Yat]
   rw [Ya1] at hq2
   exact hs.lt (by omega) (by omega) (by omega)
theorem ins_mem {es : List Ky} {t : Ky} {p : Nat} (v : Ky) : v ∈ es.take p ++ [t] ++ es.drop p ↔ v ∈ es ∨ v = t := by
 simp only [Yab,Yaq]
 constructor
 ·rintro ((h | h) | h)
  ·exact .inl (Ybj h)
  ·exact .inr h
  ·exact .inl (Ybk h)
 ·rintro (h | h)
  ·rw [← Yas p es,Yab] at h
   rcases h with h | h
   ·exact .inl (.inl h)
   ·exact .inr h
  ·exact .inl (.inr h)
theorem erase_srt {es : List Ky} (hs : Srt es) (p : Nat) : Srt (es.eraseIdx p) := List.Pairwise.sublist (List.eraseIdx_sublist _ _) hs
theorem erase_mem {es : List Ky} (hs : Srt es) {p : Nat} (hp : p < es.length) (v : Ky) : v ∈ es.eraseIdx p ↔ v ∈ es ∧ v ≠ es[p] := by
 rw [List.mem_eraseIdx_iff_getElem]
 constructor
 ·rintro ⟨q,hq,hne,rfl⟩
  refine ⟨Yae hq,fun he => ?_⟩
  rcases Yan q p with g | g
  ·have := hs.lt hq hp g; rw [he,klt_irrefl] at this; cases this
  ·have := hs.lt hp hq (by omega); rw [he,klt_irrefl] at this; cases this
 ·rintro ⟨hm,hne⟩
  obtain ⟨q,hq,rfl⟩ := Yag hm
  exact ⟨q,hq,fun e => hne (by subst e; rfl),rfl⟩
theorem srt_ext : ∀ {a b : List Ky},Srt a → Srt b → (∀ v,v ∈ a ↔ v ∈ b) → a = b := by
 intro a
 induction a with
 | nil =>
  intro b _ _ h
  cases b with
  | nil => rfl
  | cons y b => exact absurd ((h y).2 (by simp)) (by simp)
 | cons x a ih =>
  intro b ha hb h
  cases b with
  | nil => exact absurd ((h x).1 (by simp)) (by simp)
  | cons y b =>
   have ha' := Yah.1 ha
   have hb' := Yah.1 hb
   have hxy : x = y := by
    rcases Yac.1 ((h x).1 (by simp)) with g | g
    ·exact g
    ·rcases Yac.1 ((h y).2 (by simp)) with g2 | g2
     ·exact g2.symm
     ·have h1 := hb'.1 x g
      have h2 := ha'.1 y g2
      have := klt_trans h1 h2
      rw [klt_irrefl] at this; cases this
   subst hxy
   congr 1
   refine ih ha'.2 hb'.2 fun v => ?_
   have h1 := h v
   simp only [Yac] at h1
   constructor
   ·intro hv
    rcases h1.1 (.inr hv) with g | g
    ·subst g; have := ha'.1 v hv; rw [klt_irrefl] at this; cases this
    ·exact g
   ·intro hv
    rcases h1.2 (.inr hv) with g | g
    ·subst g; have := hb'.1 v hv; rw [klt_irrefl] at this; cases this
    ·exact g
theorem bs_spec {k : Nat} {S : HS} {s : Sl} {es : List Ky} {t : Ky} (hk : 2000 ≤ k) (hs : Srt es) (hle : es.length ≤ 1000) (hr : S.rows s 1 = some (es.map row1)) :
  ∃ p : Nat,Y3.f k s t S = some (((p : Int),decide (t ∈ es)),S) ∧ PosOf es t p := by
 have hsl : (s.len : Int) = es.length := by rw [← Zx3 hr]; simp
 have hloop : ∀ (n i j : Nat),j - i < n → i ≤ j → j ≤ es.length → (∀ q (hq : q < es.length),q < i → klt es[q] t = true) → (∀ q (hq : q < es.length),j ≤ q → klt es[q] t = false) →
   ∃ p : Nat,Y3.L0 k n s t (es.length : Int) (i : Int) (j : Int) S = some (((p : Int),decide (t ∈ es)),S) ∧ PosOf es t p := by
  intro n
  induction n with
  | zero => intro i j h; omega
  | succ n ih =>
   intro i j hf hij hj hlo hhi
   rw [Y3.L0]
   by_cases hlt : i < j
   ·rw [if_pos (by omega),Zagk (by omega)]
    have hm : (i + j) / 2 < es.length := by omega
    obtain ⟨ad,a1,a2⟩ := ldK_at hr hm
    rw [a1,obs,a2,obs,less_spec,obs]
    cases hc : klt es[(i + j) / 2] t with
    | true =>
     rw [if_pos rfl,Zx2 (by omega) (by omega),show ((((i + j) / 2 : Nat) : Int) + 1) = (((i + j) / 2 + 1 : Nat) : Int) by simp]
     exact ih ((i + j) / 2 + 1) j (by omega) (by omega) hj (fun q hq hqi => by
      rcases Yan q ((i + j) / 2) with h | h
      ·exact klt_trans (hs.lt hq hm h) hc
      ·obtain rfl : q = (i + j) / 2 := by omega
       exact hc) hhi
    | false =>
     rw [if_neg (by simp)]
     exact ih i ((i + j) / 2) (by omega) (by omega) (by omega) hlo (fun q hq hqi => by
      rcases Yan ((i + j) / 2) q with h | h
      ·cases h2 : klt es[q] t with
       | false => rfl
       | true => have := klt_trans (hs.lt hm hq h) h2; rw [hc] at this; cases this
      ·obtain rfl : q = (i + j) / 2 := by omega
       exact hc)
   ·obtain rfl : i = j := by omega
    rw [if_neg (by omega)]
    have hp : PosOf es t i := ⟨hj,hlo,hhi⟩
    refine ⟨i,?_,hp⟩
    by_cases hend : i < es.length
    ·obtain ⟨ad,a1,a2⟩ := ldK_at hr hend
     rw [if_pos (by omega),a1,obs,a2,obs]
     by_cases he : es[i] = t
     ·rw [if_pos he,Y3.J1,if_pos (by simpa using hend),Y3.J2,decide_eq_true (he ▸ Yae hend)]
     ·have hno : t ∉ es := fun hm => by
       obtain ⟨_,h2⟩ := hp.here hs hm
       exact he h2
      rw [if_neg he,obs,a2,obs,show Y38.f es[i] = some false by simp [Y38.f],obs,if_neg (by simp),Y3.J3,if_pos (by simpa using hend),if_neg (by simpa using he),Y3.J1,if_pos (by simpa using hend),Y3.J2,decide_eq_false hno]
    ·have hno : t ∉ es := fun hm => by
      obtain ⟨h1,_⟩ := hp.here hs hm
      exact hend h1
     rw [if_neg (by omega),Y3.J2,decide_eq_false hno]
 rw [Y3.f,hsl]
 exact hloop k 0 es.length (by omega) (Yak _) (Yaa _) (fun q hq h => by omega) (fun q hq h => by omega)
structure SI (p : Nat) (s : Sl) (xs : List Ky) (S : HS) : Prop where
 cell : S.heap p = .cells 1 [[s.hv]] true
 ov : OV S 1 s (xs.map row1)
 ne : ∀ q,s.a = some q → q.1 ≠ p
 hi : p < S.next
 srt : Srt xs
 cnt : xs.length ≤ 1000
theorem SI.lt {p : Nat} {s : Sl} {xs : List Ky} {S : HS} (h : SI p s xs S) {id : Nat} (ho : Own p s id) : id < S.next := by
 rcases ho with rfl | ⟨q,h1,rfl⟩
 ·exact h.hi
 ·exact h.ov.lt h1
theorem SI.keep {p : Nat} {s : Sl} {xs : List Ky} {S S' : HS} (h : SI p s xs S) (he : ∀ id,Own p s id → S'.heap id = S.heap id) (hn : S.next ≤ S'.next) : SI p s xs S' :=
 ⟨(he p (.inl rfl)).trans h.cell,h.ov.keep (fun q hq => he q.1 (.inr ⟨q,hq,rfl⟩)) hn,h.ne,Yai h.hi hn,h.srt,h.cnt⟩
theorem SI.fr {p : Nat} {s : Sl} {xs : List Ky} {S S' : HS} (h : SI p s xs S) (hf : Fr S.next S S') : SI p s xs S' := h.keep (fun id ho => hf.eq id (h.lt ho)) hf.le
theorem SI.ld {p : Nat} {s : Sl} {xs : List Ky} {S : HS} (h : SI p s xs S) : S.ldSl (HA.fld (HA.cell0 p) 0) = some s := Zy2 (Zxu h.cell) rfl rfl
theorem SI.slen {p : Nat} {s : Sl} {xs : List Ky} {S : HS} (h : SI p s xs S) : (s.len : Int) = xs.length := by rw [h.ov.len]; simp
theorem set_put {p : Nat} {s s' : Sl} {S : HS} (h : S.heap p = .cells 1 [[s.hv]] true) : S.sets (HA.fld (HA.cell0 p) 0) [s'.hv] = some (S.put p (.cells 1 [[s'.hv]] true)) := (Zyo h rfl (by simp)).trans rfl
theorem ins_spec {p : Nat} {s : Sl} {xs : List Ky} {S : HS} (h : SI p s xs S) {t : Ky} {i : Nat} (hp : PosOf xs t i) (hno : t ∉ xs) (hroom : xs.length < 1000) :
  ∃ s' S' S1,Y98.f s (i : Int) (S.lit [[.str t]] 1).1 (S.lit [[.str t]] 1).2 = some (s',S1) ∧ S1.sets (HA.fld (HA.cell0 p) 0) [s'.hv] = some S' ∧ SI p s' (xs.take i ++ [t] ++ xs.drop i) S' ∧ Only p s s' S S' := by
 obtain ⟨s',S1,a1,a2,a3,a4,a5⟩ := Zagi (row := row1 t) h.ov (i := i) (by simpa using hp.le) (by simp; omega)
 have hcell : S1.heap p = .cells 1 [[s.hv]] true := by rw [a4 p h.hi h.ne]; exact h.cell
 have hne' : ∀ q,s'.a = some q → q.1 ≠ p := fun q hq => by have := a5 q hq; have := h.hi; omega
 refine ⟨s',_,S1,a1,set_put hcell,⟨Zxs _ _ _,?_,hne',Yai h.hi a3,ins_srt hp h.srt hno,by simp; omega⟩,⟨by rw [Zxr]; exact a3,fun id g1 g2 => ?_,fun id ho => ?_⟩⟩
 ·have hm : (xs.take i ++ [t] ++ xs.drop i).map row1 = (xs.map row1).take i ++ [row1 t] ++ (xs.map row1).drop i := by simp only [Yau,List.map_take,List.map_drop,List.map_cons,List.map_nil]
  rw [hm]
  exact a2.keep (fun q hq => Zxd _ (hne' q hq)) (Yaa _)
 ·rw [Zxd _ (fun e => g2 (.inl e))]
  exact a4 id g1 (fun q hq e => g2 (.inr ⟨q,hq,e⟩))
 ·rcases ho with g | ⟨q,g1,g2⟩
  ·exact .inl (.inl g)
  ·right; rw [← g2]; exact a5 q g1
theorem del_spec {p : Nat} {s : Sl} {xs : List Ky} {S : HS} (h : SI p s xs S) {i : Nat} (hi : i < xs.length) :
  ∃ s' S' S1,Y92.f s (i : Int) ((i + 1 : Nat) : Int) S = some (s',S1) ∧ S1.sets (HA.fld (HA.cell0 p) 0) [s'.hv] = some S' ∧ SI p s' (xs.eraseIdx i) S' ∧ Only p s s' S S' := by
 have hcnt := h.cnt
 obtain ⟨s',S1,a1,a2,a3,a4,a5⟩ := Zagj h.ov (i := i) (by simpa using hi) (by simp; omega)
 have hcell : S1.heap p = .cells 1 [[s.hv]] true := by rw [a4 p h.hi h.ne]; exact h.cell
 have hne' : ∀ q,s'.a = some q → q.1 ≠ p := fun q hq => by have := a5 q hq; have := h.hi; omega
 refine ⟨s',_,S1,a1,set_put hcell,⟨Zxs _ _ _,?_,hne',Yai h.hi a3,erase_srt h.srt i,by rw [List.length_eraseIdx,if_pos hi]; omega⟩,⟨by rw [Zxr]; exact a3,fun id g1 g2 => ?_,fun id ho => ?_⟩⟩
 ·rw [Go.ChangeMaps.map_eraseIdx]
  exact a2.keep (fun q hq => Zxd _ (hne' q hq)) (Yaa _)
 ·rw [Zxd _ (fun e => g2 (.inl e))]
  exact a4 id g1 (fun q hq e => g2 (.inr ⟨q,hq,e⟩))
 ·rcases ho with g | ⟨q,g1,g2⟩
  ·exact .inl (.inl g)
  ·right; rw [← g2]; exact a5 q g1
theorem add_spec {k p : Nat} {s sl : Sl} {xs ls : List Ky} {S : HS} (hk : 2000 ≤ k) (h : SI p s xs S) (hr : S.rows sl 1 = some (ls.map row1)) (hlt : ∀ q,sl.a = some q → q.1 < S.next ∧ ¬ Own p s q.1) (hc : xs.length + ls.length ≤ 1000) :
  ∃ s' xs' S',Y22.f k (some (HA.cell0 p)) sl S = some ((xs'.length : Int) - xs.length,S') ∧ SI p s' xs' S' ∧ Only p s s' S S' ∧ (∀ v,v ∈ xs' ↔ v ∈ xs ∨ v ∈ ls) ∧ xs.length ≤ xs'.length ∧ xs'.length ≤ xs.length + ls.length := by
 have hsl : (sl.len : Int) = ls.length := by rw [← Zx3 hr]; simp
 have hloop : ∀ (f i : Nat) (T : HS) (s1 : Sl) (ys : List Ky),ls.length - i < f → i ≤ ls.length → SI p s1 ys T → Only p s s1 S T → (∀ v,v ∈ ys ↔ v ∈ xs ∨ v ∈ ls.take i) → xs.length ≤ ys.length → ys.length ≤ xs.length + i →
   ∃ s' xs' S',Y22.L0 k f (some (HA.cell0 p)) ((ys.length : Int) - xs.length) sl (ls.length : Int) (i : Int) T = some ((xs'.length : Int) - xs.length,S') ∧ SI p s' xs' S' ∧ Only p s s' S S' ∧ (∀ v,v ∈ xs' ↔ v ∈ xs ∨ v ∈ ls) ∧ xs.length ≤ xs'.length ∧ xs'.length ≤ xs.length + ls.length := by
  intro f
  induction f with
  | zero => intro i T s1 ys h; omega
  | succ f ih =>
   intro i T s1 ys hf hi hT hO hm hge hle
   have hrT : T.rows sl 1 = some (ls.map row1) := Zx1 hr fun q hq => hO.eq q.1 (hlt q hq).1 (hlt q hq).2
   rw [Y22.L0]
   by_cases hil : i < ls.length
   ·obtain ⟨ad,a1,a2⟩ := ldK_at hrT hil
    obtain ⟨j,b1,hp⟩ := bs_spec (t := ls[i]) hk hT.srt hT.cnt hT.ov.rows
    have hmem : ∀ v,(v ∈ ls.take (i + 1) ↔ v ∈ ls.take i ∨ v = ls[i]) := fun v => by rw [Yaf hil,Yab,Yaq]
    rw [if_pos (by omega),a1,obs,a2,obs,obs,hT.ld,obs,b1,obs]
    simp only
    by_cases hin : ls[i] ∈ ys
    ·rw [decide_eq_true hin,if_neg (by simp),Y22.J1,Zx2 (by omega) (by omega),show ((i : Int) + 1) = ((i + 1 : Nat) : Int) by simp]
     refine ih (i + 1) T s1 ys (by omega) (by omega) hT hO (fun v => ?_) hge (by omega)
     rw [hmem,← or_assoc,← hm]
     exact ⟨fun h => .inl h,fun h => h.elim id (fun e => e ▸ hin)⟩
    ·obtain ⟨s2,T2,T1,c1,c2,c3,c4⟩ := ins_spec hT hp hin (by omega)
     have hlen : (ys.take j ++ [ls[i]] ++ ys.drop j).length = ys.length + 1 := by
      have := hp.le
      simp only [Ya3,Yar,Ya1,List.length_singleton]; omega
     rw [decide_eq_false hin,if_pos (by simp),obs,hT.ld,obs,letv,c1,obs,obs,c2,obs,Y22.J1,Zx2 (n := (i : Int) + 1) (by omega) (by omega),show ((i : Int) + 1) = ((i + 1 : Nat) : Int) by simp,Zx2 (by omega) (by omega)]
     have e : (ys.length : Int) - xs.length + 1 = ((ys.take j ++ [ls[i]] ++ ys.drop j).length : Int) - xs.length := by rw [hlen]; omega
     rw [e]
     refine ih (i + 1) T2 s2 _ (by omega) (by omega) c3 (hO.trans c4) (fun v => ?_) (by omega) (by omega)
     rw [ins_mem,hmem,← or_assoc,← hm]
   ·obtain rfl : i = ls.length := by omega
    rw [if_neg (by omega)]
    rw [Yao] at hm
    exact ⟨s1,ys,T,rfl,hT,hO,hm,hge,hle⟩
 rw [Y22.f,if_neg (by simp),hsl]
 have := hloop k 0 S s xs (by omega) (Yak _) h (Only.refl _ _ _) (fun v => by simp) (Yaa _) (by omega)
 rw [show ((xs.length : Int) - xs.length) = 0 by omega] at this
 exact this
theorem remove_spec {k p : Nat} {s sl : Sl} {xs ls : List Ky} {S : HS} (hk : 2000 ≤ k) (h : SI p s xs S) (hr : S.rows sl 1 = some (ls.map row1)) (hlt : ∀ q,sl.a = some q → q.1 < S.next ∧ ¬ Own p s q.1) (hc : ls.length ≤ 1000) :
  ∃ s' xs' S',Y45.f k (some (HA.cell0 p)) sl S = some ((xs.length : Int) - xs'.length,S') ∧ SI p s' xs' S' ∧ Only p s s' S S' ∧ (∀ v,v ∈ xs' ↔ v ∈ xs ∧ v ∉ ls) ∧ xs'.length ≤ xs.length := by
 have hsl : (sl.len : Int) = ls.length := by rw [← Zx3 hr]; simp
 have hcnt := h.cnt
 have hloop : ∀ (f i : Nat) (T : HS) (s1 : Sl) (ys : List Ky),ls.length - i < f → i ≤ ls.length → SI p s1 ys T → Only p s s1 S T → (∀ v,v ∈ ys ↔ v ∈ xs ∧ v ∉ ls.take i) → ys.length ≤ xs.length →
   ∃ s' xs' S',Y45.L0 k f (some (HA.cell0 p)) ((xs.length : Int) - ys.length) sl (ls.length : Int) (i : Int) T = some ((xs.length : Int) - xs'.length,S') ∧ SI p s' xs' S' ∧ Only p s s' S S' ∧ (∀ v,v ∈ xs' ↔ v ∈ xs ∧ v ∉ ls) ∧ xs'.length ≤ xs.length := by
  intro f
  induction f with
  | zero => intro i T s1 ys h; omega
  | succ f ih =>
   intro i T s1 ys hf hi hT hO hm hle
   have hrT : T.rows sl 1 = some (ls.map row1) := Zx1 hr fun q hq => hO.eq q.1 (hlt q hq).1 (hlt q hq).2
   rw [Y45.L0]
   by_cases hil : i < ls.length
   ·obtain ⟨ad,a1,a2⟩ := ldK_at hrT hil
    obtain ⟨j,b1,hp⟩ := bs_spec (t := ls[i]) hk hT.srt hT.cnt hT.ov.rows
    have hmem : ∀ v,(v ∉ ls.take (i + 1) ↔ v ∉ ls.take i ∧ v ≠ ls[i]) := fun v => by rw [Yaf hil,Yab,Yaq,not_or]
    rw [if_pos (by omega),a1,obs,a2,obs,obs,hT.ld,obs,b1,obs]
    simp only
    by_cases hin : ls[i] ∈ ys
    ·obtain ⟨hj,he⟩ := hp.here hT.srt hin
     obtain ⟨s2,T2,T1,c1,c2,c3,c4⟩ := del_spec hT hj
     have hlen : (ys.eraseIdx j).length = ys.length - 1 := by rw [List.length_eraseIdx,if_pos hj]
     rw [decide_eq_true hin,if_pos rfl,obs,hT.ld,obs,Zx2 (n := (j : Int) + 1) (by omega) (by omega),show ((j : Int) + 1) = ((j + 1 : Nat) : Int) by simp,c1,obs,obs,c2,obs,Y45.J1,Zx2 (n := (i : Int) + 1) (by omega) (by omega),show ((i : Int) + 1) = ((i + 1 : Nat) : Int) by simp,Zx2 (by omega) (by omega)]
     have e : (xs.length : Int) - ys.length + 1 = (xs.length : Int) - ((ys.eraseIdx j).length : Int) := by rw [hlen]; omega
     rw [e]
     refine ih (i + 1) T2 s2 _ (by omega) (by omega) c3 (hO.trans c4) (fun v => ?_) (by omega)
     rw [erase_mem hT.srt hj,hmem,← and_assoc,← hm,he]
    ·rw [decide_eq_false hin,if_neg (by simp),Y45.J1,Zx2 (by omega) (by omega),show ((i : Int) + 1) = ((i + 1 : Nat) : Int) by simp]
     refine ih (i + 1) T s1 ys (by omega) (by omega) hT hO (fun v => ?_) hle
     rw [hmem,← and_assoc,← hm]
     exact ⟨fun h => ⟨h,fun e => hin (e ▸ h)⟩,fun h => h.1⟩
   ·obtain rfl : i = ls.length := by omega
    rw [if_neg (by omega)]
    rw [Yao] at hm
    exact ⟨s1,ys,T,rfl,hT,hO,hm,hle⟩
 rw [Y45.f,if_neg (by simp),hsl]
 have := hloop k 0 S s xs (by omega) (Yak _) h (Only.refl _ _ _) (fun v => by simp) (Yaa _)
 rw [show ((xs.length : Int) - xs.length) = 0 by omega] at this
 exact this
theorem len_spec {p : Nat} {s : Sl} {xs : List Ky} {S : HS} (h : SI p s xs S) : Y35.f (some (HA.cell0 p)) S = some ((xs.length : Int),S) := by
 rw [Y35.f,if_neg (by simp),obs,h.ld,obs,h.slen]
theorem of_spec {k : Nat} {sl : Sl} {ls : List Ky} {S : HS} (hk : 2000 ≤ k) (hr : Rd S.next S 1 sl (ls.map row1)) (hc : ls.length ≤ 1000) :
  ∃ s' xs' S',Y74.f k sl S = some (some (HA.cell0 S.next),S') ∧ SI S.next s' xs' S' ∧ Fr S.next S S' ∧ (∀ id,Own S.next s' id → S.next ≤ id) ∧ (∀ v,v ∈ xs' ↔ v ∈ ls) ∧ xs'.length ≤ ls.length := by
 have fn : Fr S.next S (S.new (.cells 1 [[Sl.nil.hv]] true)) := Fr.new (Yaa _) _
 have h0 : SI S.next Sl.nil [] (S.new (.cells 1 [[Sl.nil.hv]] true)) := ⟨Zxv _ _,.inl ⟨rfl,rfl,rfl⟩,fun q hq => (by cases hq),Yaw _,List.Pairwise.nil,by simp⟩
 have nn : (S.new (.cells 1 [[Sl.nil.hv]] true)).next = S.next + 1 := rfl
 obtain ⟨s',xs',S',e,g1,g2,g3,g4,g5⟩ := add_spec hk h0 (hr.frame fn (Yaa _)).rows (fun q hq => ⟨by have := hr.lt q hq; omega,fun ho => by
  rcases ho with g | ⟨q',g,_⟩
  ·have := hr.lt q hq; omega
  ·cases g⟩) (by simpa using hc)
 rw [Y74.f,letv,e,obs]
 refine ⟨s',xs',S',rfl,g1,⟨by have := g2.le; omega,fun id hid => ?_⟩,fun id ho => ?_,fun v => by rw [g3]; simp,by simpa using g5⟩
 ·rw [g2.eq id (by omega) (fun ho => by
   rcases ho with g | ⟨q',g,_⟩
   ·omega
   ·cases g)]
  exact fn.eq id hid
 ·rcases g2.own id ho with g | g
  ·rcases g with g | ⟨q',g,_⟩
   ·omega
   ·cases g
  ·omega
end KS
namespace KI
theorem list_spec {p : Nat} {s : Sl} {xs : List Ky} {S : HS} (h : SI p s xs S) : ∃ s' S',Y59.f (some (HA.cell0 p)) S = some (s',S') ∧ S'.rows s' 1 = some (xs.map row1) ∧ (∀ q,s'.a = some q → S.next ≤ q.1 ∧ q.1 < S'.next) ∧ Fr S.next S S' := by
 rw [Y59.f,if_neg (by simp),obs,h.ld,obs,Y91.f]
 by_cases ha : s.a.isNone = true
 ·rw [if_pos ha,obs]
  refine ⟨_,S,rfl,?_,fun q hq => (by cases hq),Fr.refl _ _⟩
  rw [h.ov.none (by simpa using ha)]; rfl
 ·have hcnt := h.cnt
  rw [if_neg ha,letv]
  have hl := Vec.lit (n := S.next) (z := 1) (S := S) [] (Yaa _)
  have hr' : (S.lit [] 1).2.rows s 1 = some (xs.map row1) := (h.ov.rd.frame (Zyt [] (Yaa _)) (Yaa _)).rows
  obtain ⟨s',S1,e1,v1,f1⟩ := hl.app (new := xs.map row1) (Nat.le_succ _) (by simp; omega)
  rw [hr',obs,e1,obs,obs]
  rw [Yay] at v1
  exact ⟨s',S1,rfl,v1.rows,v1.lo,(Zyt [] (Yaa _)).trans f1⟩
theorem app1_spec {n : Nat} {S : HS} {s : Sl} {xs : List Ky} (t : Ky) (h : Vec n S 1 s (xs.map row1)) (hn : n ≤ S.next) (hl : xs.length < 1000000) :
  ∃ s' S',HS.app (S.lit [[.int .i64 t]] 1).2 s [[.int .i64 t]] 1 = some (s',S') ∧ (S.lit [[.int .i64 t]] 1).2.rows (S.lit [[.int .i64 t]] 1).1 1 = some [[.int .i64 t]] ∧ Vec n S' 1 s' ((xs ++ [t]).map row1) ∧ Fr n S S' ∧ (∀ id,id < S.next → (∀ q,s.a = some q → q.1 ≠ id) → S'.heap id = S.heap id) ∧ (∀ q,s'.a = some q → S.next ≤ q.1 ∨ ∃ q0,s.a = some q0 ∧ q0.1 = q.1) := by
 have fl : Fr S.next S (S.lit [[.int .i64 t]] 1).2 := Zyt _ (Yaa _)
 have nl : (S.lit [[.int .i64 t]] 1).2.next = S.next + 1 := rfl
 obtain ⟨s',S',e1,v1,f1,k1,q1⟩ := (h.frame fl (Yaa _)).app2 (new := [[.int .i64 t]]) (by omega) (by simp; omega)
 refine ⟨s',S',e1,(Vec.lit (n := 0) (z := 1) (S := S) _ (Yak _)).rows,by rw [Yau]; exact v1,(fl.mono hn).trans f1,fun id h1 h2 => (k1 id (by omega) h2).trans (fl.eq id h1),fun q hq => ?_⟩
 rcases q1 q hq with g | g
 ·exact .inl (by omega)
 ·exact .inr g
end KI
namespace KS
theorem has_spec {k p : Nat} {s : Sl} {xs : List Ky} {S : HS} (hk : 2000 ≤ k) (h : SI p s xs S) (t : Ky) : Y68.f k (some (HA.cell0 p)) t S = some (decide (t ∈ xs),S) := by
 obtain ⟨j,b1,hp⟩ := bs_spec (t := t) hk h.srt h.cnt h.ov.rows
 rw [Y68.f,if_neg (by simp),obs,h.ld,obs,b1,obs]
theorem list_spec {p : Nat} {s : Sl} {xs : List Ky} {S : HS} (h : SI p s xs S) : ∃ s' S',Y64.f (some (HA.cell0 p)) S = some (s',S') ∧ S'.rows s' 1 = some (xs.map row1) ∧ (∀ q,s'.a = some q → S.next ≤ q.1 ∧ q.1 < S'.next) ∧ Fr S.next S S' := by
 rw [Y64.f,if_neg (by simp),obs,h.ld,obs,Y101.f]
 by_cases ha : s.a.isNone = true
 ·rw [if_pos ha,obs]
  refine ⟨_,S,rfl,?_,fun q hq => (by cases hq),Fr.refl _ _⟩
  rw [h.ov.none (by simpa using ha)]; rfl
 ·have hcnt := h.cnt
  rw [if_neg ha,letv]
  have hl := Vec.lit (n := S.next) (z := 1) (S := S) [] (Yaa _)
  have hr' : (S.lit [] 1).2.rows s 1 = some (xs.map row1) := (h.ov.rd.frame (Zyt [] (Yaa _)) (Yaa _)).rows
  obtain ⟨s',S1,e1,v1,f1⟩ := hl.app (new := xs.map row1) (Nat.le_succ _) (by simp; omega)
  rw [hr',obs,e1,obs,obs]
  rw [Yay] at v1
  exact ⟨s',S1,rfl,v1.rows,v1.lo,(Zyt [] (Yaa _)).trans f1⟩
theorem values_tells {k n c : Nat} {B : HS} {s : Sl} {xs : List Ky} (hk : xs.length < k) (hx : xs.length ≤ 1000000) (hc : B.heap c = .cells 1 [[s.hv]] true) (hr : B.rows s 1 = some (xs.map row1)) (K : Nat → Prop) (hK : K c ∧ ∀ q,s.a = some q → K q.1) :
  Tells (disp k (n + 2)) (.fn (.func 130) [] [.ptr (some (HA.cell0 c))]) (xs.map row1) K B := by
 intro H l I Stop ht O S hI hB
 have hlen : (xs.map row1).length = xs.length := by simp
 have hcS : S.heap c = .cells 1 [[s.hv]] true := (hB c hK.1).1.trans hc
 have hrS : S.rows s 1 = some (xs.map row1) := Zx1 hr fun q hq => (hB q.1 (hK.2 q hq)).1
 have hloop : ∀ f i O1 T,xs.length - i < f → i ≤ xs.length → I i O1 T → S.next ≤ T.next → (∀ id,id < S.next → ¬ O id → T.heap id = S.heap id) → (∀ id,O1 id → O id ∨ S.next ≤ id) →
   ∃ S' O',Y66.L0 (disp k (n + 1)) H k f (.fn (.yield l) [] []) s (xs.length : Int) (i : Int) T = some ((),S') ∧ S.next ≤ S'.next ∧ (∀ id,id < S.next → ¬ O id → S'.heap id = S.heap id) ∧ (∀ id,O' id → O id ∨ S.next ≤ id) ∧ (I xs.length O' S' ∨ Stop O' S') := by
  intro f
  induction f with
  | zero => intro i O1 T h; omega
  | succ f ih =>
   intro i O1 T hf hi hIT hn hk2 hO
   rw [Y66.L0]
   by_cases hlt : i < xs.length
   ·have hrT : T.rows s 1 = some (xs.map row1) := Zx1 hrS fun q hq => hk2 q.1 (hB q.1 (hK.2 q hq)).2.2 (hB q.1 (hK.2 q hq)).2.1
    obtain ⟨ad,a1,a2⟩ := ldK_at hrT hlt
    obtain ⟨b,T2,O2,e2,n2,k2,o2,g1,g2⟩ := ht.step i (by omega) O1 T hIT
    have he : disp k (n + 1) H (.fn (.yield l) [] []) [.str xs[i]] T = some (.bool b,T2) := by
     rw [Zzx,← e2,Yaj]; rfl
    have hk3 : ∀ id,id < S.next → ¬ O id → T2.heap id = S.heap id := fun id h1 h2 => (k2 id (by omega) (fun ho => (hO id ho).elim h2 (fun h => by omega))).trans (hk2 id h1 h2)
    have hO3 : ∀ id,O2 id → O id ∨ S.next ≤ id := fun id h => (o2 id h).elim (hO id) (fun h => .inr (by omega))
    rw [if_pos (by omega),a1,obs,a2,obs,he,obs]
    simp only [dB,obs]
    cases b with
    | false => exact ⟨T2,O2,rfl,by omega,hk3,hO3,.inr (g2 rfl)⟩
    | true =>
     rw [if_neg (by simp),Zx2 (by omega) (by omega),show ((i : Int) + 1) = ((i + 1 : Nat) : Int) by simp]
     exact ih (i + 1) O2 T2 (by omega) (by omega) (g1 rfl) (by omega) hk3 hO3
   ·obtain rfl : i = xs.length := by omega
    rw [if_neg (by omega)]
    exact ⟨T,O1,rfl,hn,hk2,hO,.inl hIT⟩
 obtain ⟨S',O',e,h1,h2,h3,h4⟩ := hloop k 0 O S (by omega) (Yak _) hI (Yaa _) (fun _ _ _ => rfl) (fun _ h => .inl h)
 refine ⟨S',O',?_,h1,h2,h3,by rw [hlen]; exact h4⟩
 rw [Zzq]
 have hsl : (s.len : Int) = xs.length := by rw [← Zx3 hrS]; simp
 have e' : Zaao (disp k (n + 1)) H k ([] ++ [HV.fn (.yield l) [] []] ++ [.ptr (some (HA.cell0 c))]) S = some (.tup [],S') := by
  rw [Zaao]
  simp only [Yay,List.cons_append,Zaa6,obs,dF,dP]
  rw [Y66.f,obs,Zym hcS,obs,hsl]
  erw [e]
  rfl
 repeat rw [if_neg (by decide)]
 rw [if_pos rfl,e']
theorem all_spec {p : Nat} {s : Sl} {xs : List Ky} {S : HS} (h : SI p s xs S) : ∃ c s' S',Y70.f (some (HA.cell0 p)) S = some (.fn (.func 130) [] [.ptr (some (HA.cell0 c))],S') ∧ S'.heap c = .cells 1 [[s'.hv]] true ∧ S'.rows s' 1 = some (xs.map row1) ∧ (S.next ≤ c ∧ c < S'.next) ∧ (∀ q,s'.a = some q → S.next ≤ q.1 ∧ q.1 < S'.next) ∧ Fr S.next S S' := by
 obtain ⟨s',S1,e1,r1,q1,f1⟩ := list_spec h
 rw [Y70.f,e1,obs,Y76.f,letv,obs]
 have hrd : Rd S1.next S1 1 s' (xs.map row1) := ⟨r1,fun q hq => (q1 q hq).2⟩
 exact ⟨S1.next,s',_,rfl,Zxv _ _,(hrd.frame (Fr.new (Yaa _) _) (Yaa _)).rows,⟨f1.le,Yaw _⟩,fun q hq => ⟨(q1 q hq).1,Nat.lt_succ_of_lt (q1 q hq).2⟩,f1.trans (Fr.new f1.le _)⟩
theorem app1_spec {n : Nat} {S : HS} {s : Sl} {xs : List Ky} (t : Ky) (h : Vec n S 1 s (xs.map row1)) (hn : n ≤ S.next) (hl : xs.length < 1000000) :
  ∃ s' S',HS.app (S.lit [[.str t]] 1).2 s [[.str t]] 1 = some (s',S') ∧ (S.lit [[.str t]] 1).2.rows (S.lit [[.str t]] 1).1 1 = some [[.str t]] ∧ Vec n S' 1 s' ((xs ++ [t]).map row1) ∧ Fr n S S' ∧ (∀ id,id < S.next → (∀ q,s.a = some q → q.1 ≠ id) → S'.heap id = S.heap id) ∧ (∀ q,s'.a = some q → S.next ≤ q.1 ∨ ∃ q0,s.a = some q0 ∧ q0.1 = q.1) := by
 have fl : Fr S.next S (S.lit [[.str t]] 1).2 := Zyt _ (Yaa _)
 have nl : (S.lit [[.str t]] 1).2.next = S.next + 1 := rfl
 obtain ⟨s',S',e1,v1,f1,k1,q1⟩ := (h.frame fl (Yaa _)).app2 (new := [[.str t]]) (by omega) (by simp; omega)
 refine ⟨s',S',e1,(Vec.lit (n := 0) (z := 1) (S := S) _ (Yak _)).rows,by rw [Yau]; exact v1,(fl.mono hn).trans f1,fun id h1 h2 => (k1 id (by omega) h2).trans (fl.eq id h1),fun q hq => ?_⟩
 rcases q1 q hq with g | g
 ·exact .inl (by omega)
 ·exact .inr g
end KS
namespace MA
abbrev Kk := KI.Ky
abbrev Vv := KS.Ky
structure En where
 key : Kk
 p : Nat
 s : Sl
 xs : List Vv
def ent (e : En) : HV × HV := (KI.kv e.key,.ptr (some (HA.cell0 e.p)))
theorem kSame_kv (a b : Kk) : Zabr (KI.kv a) (KI.kv b) = some (a == b) := by simp [Zabr,Zyj,KI.kv]
theorem mf_none {k : Kk} : ∀ {E : List En} (i : Nat),(∀ e ∈ E,e.key ≠ k) → mfind (KI.kv k) (E.map ent) i = some none := by
 intro E
 induction E with
 | nil => intro i _; rfl
 | cons e E ih =>
  intro i h
  rw [List.map_cons,mfind.eq_def]
  simp only [ent,kSame_kv,show (k == e.key) = false from beq_eq_false_iff_ne.2 (fun g => h e (by simp) g.symm)]
  exact ih (i + 1) fun x hx => h x (by simp [hx])
theorem mf_at {k : Kk} {e : En} {B : List En} (hk : e.key = k) : ∀ {A : List En} (i : Nat),(∀ a ∈ A,a.key ≠ k) → mfind (KI.kv k) ((A ++ e :: B).map ent) i = some (some (i + A.length,.ptr (some (HA.cell0 e.p)))) := by
 intro A
 induction A with
 | nil =>
  intro i _
  rw [Yay,List.map_cons,mfind.eq_def]
  simp only [ent,kSame_kv,hk,beq_self_eq_true]
  rfl
 | cons a A ih =>
  intro i h
  rw [List.cons_append,List.map_cons,mfind.eq_def]
  simp only [ent,kSame_kv,show (k == a.key) = false from beq_eq_false_iff_ne.2 (fun g => h a (by simp) g.symm)]
  rw [ih (i + 1) fun x hx => h x (by simp [hx])]
  simp; omega
structure MS (m : Nat) (E : List En) (S : HS) : Prop where
 mp : S.heap m = .map (E.map ent)
 nd : E.Pairwise fun a b => a.key ≠ b.key
 si : ∀ e ∈ E,KS.SI e.p e.s e.xs S
 dis : E.Pairwise fun a b => ∀ id,Own a.p a.s id → ¬ Own b.p b.s id
 nm : ∀ e ∈ E,¬ Own e.p e.s m
 lt : m < S.next
def OM (m : Nat) (E : List En) (id : Nat) : Prop := id = m ∨ ∃ e ∈ E,Own e.p e.s id
def mem (E : List En) (k : Kk) (v : Vv) : Prop := ∃ e ∈ E,e.key = k ∧ v ∈ e.xs
theorem MS.ltO {m : Nat} {E : List En} {S : HS} (h : MS m E S) {id : Nat} (ho : OM m E id) : id < S.next := by
 rcases ho with rfl | ⟨e,he,ho⟩
 ·exact h.lt
 ·exact (h.si e he).lt ho
theorem MS.keep {m : Nat} {E : List En} {S S' : HS} (h : MS m E S) (hk : ∀ id,OM m E id → S'.heap id = S.heap id) (hn : S.next ≤ S'.next) : MS m E S' :=
 ⟨(hk m (.inl rfl)).trans h.mp,h.nd,fun e he => (h.si e he).keep (fun id ho => hk id (.inr ⟨e,he,ho⟩)) hn,h.dis,h.nm,Yai h.lt hn⟩
theorem MS.fr {m : Nat} {E : List En} {S S' : HS} (h : MS m E S) (hf : Fr S.next S S') : MS m E S' := h.keep (fun id ho => hf.eq id (h.ltO ho)) hf.le
theorem split_at {E : List En} {k : Kk} (hn : E.Pairwise fun a b => a.key ≠ b.key) {e : En} (he : e ∈ E) (hk : e.key = k) : ∃ A B,E = A ++ e :: B ∧ ∀ a ∈ A,a.key ≠ k := by
 obtain ⟨A,B,rfl⟩ := Ybd he
 refine ⟨A,B,rfl,fun a ha => ?_⟩
 rw [Yad] at hn
 have := hn.2.2 a ha e (by simp)
 rw [← hk]; exact this
theorem get_spec {m : Nat} {E : List En} {S : HS} (h : MS m E S) (k : Kk) : (S.look (some m) (KI.kv k) = some none ∧ ∀ e ∈ E,e.key ≠ k) ∨ ∃ A e B,E = A ++ e :: B ∧ e.key = k ∧ (∀ a ∈ A,a.key ≠ k) ∧ S.look (some m) (KI.kv k) = some (some (.ptr (some (HA.cell0 e.p)))) := by
 by_cases hx : ∃ e ∈ E,e.key = k
 ·obtain ⟨e,he,hk⟩ := hx
  obtain ⟨A,B,rfl,hA⟩ := split_at h.nd he hk
  refine .inr ⟨A,e,B,rfl,hk,hA,?_⟩
  rw [HS.look,HS.mp,h.mp,obs,mf_at hk 0 hA]; rfl
 ·refine .inl ⟨?_,fun e he g => hx ⟨e,he,g⟩⟩
  rw [HS.look,HS.mp,h.mp,obs,mf_none 0 fun e he g => hx ⟨e,he,g⟩]; rfl
theorem MS.upd {m : Nat} {A B : List En} {e : En} {s' : Sl} {xs' : List Vv} {S S' : HS} (h : MS m (A ++ e :: B) S) (hs : KS.SI e.p s' xs' S') (ho : Only e.p e.s s' S S') :
  MS m (A ++ ⟨e.key,e.p,s',xs'⟩ :: B) S' ∧ Chg (OM m (A ++ e :: B)) (OM m (A ++ ⟨e.key,e.p,s',xs'⟩ :: B)) S S' := by
 have hle := ho.le
 have hd := h.dis
 rw [Yad,Yah] at hd
 have hn := h.nd
 rw [Yad,Yah] at hn
 have hso : ∀ id,Own e.p s' id → Own e.p e.s id ∨ S.next ≤ id := ho.own
 have hoth : ∀ a,a ∈ A ∨ a ∈ B → a ∈ A ++ e :: B ∧ ∀ id,Own a.p a.s id → ¬ Own e.p e.s id := fun a ha => by
  rcases ha with g | g
  ·exact ⟨by simp [g],fun id h1 h2 => hd.2.2 a g e (by simp) id h1 h2⟩
  ·exact ⟨by simp [g],fun id h1 h2 => hd.2.1.1 a g id h2 h1⟩
 have hnew : ∀ a,a ∈ A ∨ a ∈ B → ∀ id,Own a.p a.s id → ¬ Own e.p s' id := fun a ha id h1 h2 => by
  rcases hso id h2 with g | g
  ·exact (hoth a ha).2 id h1 g
  ·have := (h.si a (hoth a ha).1).lt h1; omega
 refine ⟨⟨?_,?_,fun x hx => ?_,?_,fun x hx => ?_,by have := h.lt; omega⟩,⟨hle,fun id h1 h2 => ho.eq id h1 fun g => h2 (.inr ⟨e,by simp,g⟩),fun id hid => ?_⟩⟩
 ·rw [ho.eq m h.lt (h.nm e (by simp)),h.mp]
  simp [ent]
 ·rw [Yad,Yah]
  refine ⟨hn.1,⟨hn.2.1.1,hn.2.1.2⟩,fun a ha b hb => ?_⟩
  rcases Yac.1 hb with rfl | hb
  ·exact hn.2.2 a ha e (by simp)
  ·exact hn.2.2 a ha b (by simp [hb])
 ·rcases Yab.1 hx with g | g
  ·exact (h.si x (by simp [g])).keep (fun id h1 => ho.eq id ((h.si x (by simp [g])).lt h1) ((hoth x (.inl g)).2 id h1)) hle
  ·rcases Yac.1 g with rfl | g
   ·exact hs
   ·exact (h.si x (by simp [g])).keep (fun id h1 => ho.eq id ((h.si x (by simp [g])).lt h1) ((hoth x (.inr g)).2 id h1)) hle
 ·rw [Yad,Yah]
  refine ⟨hd.1,⟨fun b hb id h1 h2 => hnew b (.inr hb) id h2 h1,hd.2.1.2⟩,fun a ha b hb => ?_⟩
  rcases Yac.1 hb with rfl | hb
  ·exact hnew a (.inl ha)
  ·exact hd.2.2 a ha b (by simp [hb])
 ·rcases Yab.1 hx with g | g
  ·exact h.nm x (by simp [g])
  ·rcases Yac.1 g with rfl | g
   ·intro g'
    rcases hso m g' with g2 | g2
    ·exact h.nm e (by simp) g2
    ·have := h.lt; omega
   ·exact h.nm x (by simp [g])
 ·rcases hid with rfl | ⟨x,hx,g⟩
  ·exact .inl (.inl rfl)
  ·rcases Yab.1 hx with g' | g'
   ·exact .inl (.inr ⟨x,by simp [g'],g⟩)
   ·rcases Yac.1 g' with rfl | g'
    ·exact (hso id g).imp (fun q => .inr ⟨e,by simp,q⟩) id_
    ·exact .inl (.inr ⟨x,by simp [g'],g⟩)
where id_ {p : Prop} (h : p) : p := h
theorem j0_spec {k m : Nat} {A B : List En} {e : En} {v : Vv} {S : HS} (hk : 2000 ≤ k) (h : MS m (A ++ e :: B) S) (hA : ∀ a ∈ A,a.key ≠ e.key) (hc : e.xs.length < 1000) :
  ∃ s' xs' S',Y55.J0 k (some m) e.key v S = some ((),S') ∧ MS m (A ++ ⟨e.key,e.p,s',xs'⟩ :: B) S' ∧ Chg (OM m (A ++ e :: B)) (OM m (A ++ ⟨e.key,e.p,s',xs'⟩ :: B)) S S' ∧ (∀ u,u ∈ xs' ↔ u ∈ e.xs ∨ u = v) ∧ xs'.length ≤ e.xs.length + 1 := by
 have he := h.si e (by simp)
 have hlk : S.look (some m) (KI.kv e.key) = some (some (.ptr (some (HA.cell0 e.p)))) := by
  rw [HS.look,HS.mp,h.mp,obs,mf_at rfl 0 hA]; rfl
 have fl : Fr S.next S (S.lit [[.str v]] 1).2 := Zyt _ (Yaa _)
 have nl : (S.lit [[.str v]] 1).2.next = S.next + 1 := rfl
 have rl : (S.lit [[.str v]] 1).2.rows (S.lit [[.str v]] 1).1 1 = some ([v].map KS.row1) := (Vec.lit (n := 0) (z := 1) (S := S) _ (Yak _)).rows
 have ql : ∀ q,(S.lit [[.str v]] 1).1.a = some q → q.1 = S.next := fun q hq => by cases hq; rfl
 rw [Y55.J0]
 erw [hlk]
 rw [obs,show dP ((some (HV.ptr (some (HA.cell0 e.p)))).getD (.ptr none)) = some (some (HA.cell0 e.p)) from rfl,obs,letv]
 generalize S.lit [[.str v]] 1 = P at fl nl rl ql ⊢
 obtain ⟨sl,S1⟩ := P
 simp only at fl nl rl ql ⊢
 have h1 := h.fr fl
 have he1 := he.fr fl
 obtain ⟨s',xs',S2,e2,i2,o2,m2,c2,c2'⟩ := KS.add_spec hk he1 rl (fun q hq => by
  have := ql q hq
  exact ⟨by omega,fun g => by have := he.lt g; omega⟩) (by simp; omega)
 obtain ⟨g1,g2⟩ := h1.upd i2 o2
 rw [e2,obs]
 exact ⟨s',xs',S2,rfl,g1,(Chg.of_fr fl).trans g2,fun u => by rw [m2]; simp,by simpa using c2'⟩
theorem put_spec {k m n : Nat} {E : List En} {key : Kk} {v : Vv} {S : HS} (hk : 2000 ≤ k) (h : MS m E S) (hne : ∀ e ∈ E,e.xs ≠ []) (hc : ∀ e ∈ E,e.xs.length ≤ n) (hn : n < 1000) :
  ∃ E' S',Y55.f k (some m) key v S = some ((),S') ∧ MS m E' S' ∧ Chg (OM m E) (OM m E') S S' ∧ (∀ k' v',mem E' k' v' ↔ mem E k' v' ∨ (k' = key ∧ v' = v)) ∧ (∀ e ∈ E',e.xs ≠ []) ∧ (∀ e ∈ E',e.xs.length ≤ n + 1) := by
 have hmem : ∀ (A B : List En) (e : En) (s' : Sl) (xs' : List Vv),e.key = key → (∀ u,u ∈ xs' ↔ u ∈ e.xs ∨ u = v) → ∀ k' v',mem (A ++ ⟨e.key,e.p,s',xs'⟩ :: B) k' v' ↔ mem (A ++ e :: B) k' v' ∨ (k' = key ∧ v' = v) := by
  intro A B e s' xs' hke hx k' v'
  constructor
  ·rintro ⟨x,hx1,hx2,hx3⟩
   rcases Yab.1 hx1 with g | g
   ·exact .inl ⟨x,by simp [g],hx2,hx3⟩
   ·rcases Yac.1 g with rfl | g
    ·rcases (hx v').1 hx3 with g2 | g2
     ·exact .inl ⟨e,by simp,hx2,g2⟩
     ·exact .inr ⟨by rw [← hx2]; exact hke,g2⟩
    ·exact .inl ⟨x,by simp [g],hx2,hx3⟩
  ·rintro (⟨x,hx1,hx2,hx3⟩ | ⟨rfl,rfl⟩)
   ·rcases Yab.1 hx1 with g | g
    ·exact ⟨x,by simp [g],hx2,hx3⟩
    ·rcases Yac.1 g with rfl | g
     ·exact ⟨⟨x.key,x.p,s',xs'⟩,by simp,hx2,(hx v').2 (.inl hx3)⟩
     ·exact ⟨x,by simp [g],hx2,hx3⟩
   ·exact ⟨⟨e.key,e.p,s',xs'⟩,by simp,hke,(hx _).2 (.inr rfl)⟩
 rw [Y55.f]
 rcases get_spec h key with ⟨e1,hno⟩ | ⟨A,e,B,rfl,hke,hA,e1⟩
 ·obtain ⟨s,xs,S1,e2,i2,f2,o2,m2,c2⟩ := KS.of_spec (k := k) (sl := Sl.nil) (ls := []) (S := S) hk ⟨rfl,fun q hq => by cases hq⟩ (by simp)
  have hx : xs = [] := by simpa using c2
  subst hx
  have h1 := h.fr f2
  have le2 := f2.le
  have hput : S1.mput (some m) (KI.kv key) (.ptr (some (HA.cell0 S.next))) = some (S1.put m (.map ((E ++ [(⟨key,S.next,s,[]⟩ : En)]).map ent))) := by
   simp only [HS.mput,h1.mp]
   rw [mf_none 0 hno]
   simp [ent]
  erw [e1]
  rw [obs,show dP ((none : Option HV).getD (.ptr none)) = some none from rfl,obs,if_pos (by rfl),e2,obs]
  erw [hput]
  rw [obs]
  have hmO : ∀ id,Own S.next s id → id ≠ m := fun id g => by have := o2 id g; have := h.lt; omega
  have h2 : MS m (E ++ (⟨key,S.next,s,[]⟩ : En) :: []) (S1.put m (.map ((E ++ [(⟨key,S.next,s,[]⟩ : En)]).map ent))) := by
   refine ⟨Zxs _ _ _,?_,fun x hx => ?_,?_,fun x hx => ?_,by rw [Zxr]; have := h.lt; omega⟩
   ·rw [Yad]
    exact ⟨h.nd,List.pairwise_singleton _ _,fun a ha b hb => by simp at hb; subst hb; exact hno a ha⟩
   ·rcases Yab.1 hx with g | g
    ·exact (h1.si x g).keep (fun id ho => Zxd _ (fun q => by subst q; exact h1.nm x g ho)) (Yaa _)
    ·simp at g; subst g; exact i2.keep (fun id ho => Zxd _ (hmO id ho)) (Yaa _)
   ·rw [Yad]
    refine ⟨h.dis,List.pairwise_singleton _ _,fun a ha b hb id g1 g2 => ?_⟩
    simp at hb; subst hb
    have := (h.si a ha).lt g1
    have := o2 id g2
    omega
   ·rcases Yab.1 hx with g | g
    ·exact h.nm x g
    ·simp at g; subst g; exact fun ho => hmO m ho rfl
  have hch : Chg (OM m E) (OM m (E ++ (⟨key,S.next,s,[]⟩ : En) :: [])) S (S1.put m (.map ((E ++ [(⟨key,S.next,s,[]⟩ : En)]).map ent))) := by
   refine ⟨by rw [Zxr]; omega,fun id g1 g2 => by rw [Zxd _ (fun q => g2 (.inl q))]; exact f2.eq id g1,fun id ho => ?_⟩
   rcases ho with g | ⟨x,hx,g⟩
   ·exact .inl (.inl g)
   ·rcases Yab.1 hx with g' | g'
    ·exact .inl (.inr ⟨x,g',g⟩)
    ·simp at g'; subst g'; exact .inr (o2 id g)
  obtain ⟨s',xs',S3,e3,g1,g2,g3,g4⟩ := j0_spec (v := v) hk h2 hno (by simp)
  refine ⟨_,S3,e3,g1,hch.trans g2,fun k' v' => ?_,fun x hx => ?_,fun x hx => ?_⟩
  ·rw [hmem E [] ⟨key,S.next,s,[]⟩ s' xs' rfl g3]
   have : mem (E ++ (⟨key,S.next,s,[]⟩ : En) :: []) k' v' ↔ mem E k' v' := by
    constructor
    ·rintro ⟨x,hx,q1,q2⟩
     rcases Yab.1 hx with g | g
     ·exact ⟨x,g,q1,q2⟩
     ·simp at g; subst g; cases q2
    ·rintro ⟨x,hx,q1,q2⟩; exact ⟨x,by simp [hx],q1,q2⟩
   rw [this]
  ·rcases Yab.1 hx with g | g
   ·exact hne x g
   ·simp at g; subst g
    intro q
    have := (g3 v).2 (.inr rfl)
    simp only at q
    rw [q] at this; cases this
  ·rcases Yab.1 hx with g | g
   ·have := hc x g; omega
   ·simp at g; subst g; simp at g4; simp; omega
 ·subst hke
  obtain ⟨s',xs',S3,e3,g1,g2,g3,g4⟩ := j0_spec (v := v) hk h hA (by have := hc e (by simp); omega)
  erw [e1]
  rw [obs,show dP ((some (HV.ptr (some (HA.cell0 e.p)))).getD (.ptr none)) = some (some (HA.cell0 e.p)) from rfl,obs,if_neg (by simp),e3]
  refine ⟨_,S3,rfl,g1,g2,fun k' v' => hmem A B e s' xs' rfl g3 k' v',fun x hx => ?_,fun x hx => ?_⟩
  ·rcases Yab.1 hx with g | g
   ·exact hne x (by simp [g])
   ·rcases Yac.1 g with rfl | g
    ·intro q
     have := (g3 v).2 (.inr rfl)
     simp only at q
     rw [q] at this; cases this
    ·exact hne x (by simp [g])
  ·rcases Yab.1 hx with g | g
   ·have := hc x (by simp [g]); omega
   ·rcases Yac.1 g with rfl | g
    ·have := hc e (by simp); simp only; omega
    ·have := hc x (by simp [g]); omega
theorem MS.del {m : Nat} {A B : List En} {e : En} {S : HS} (h : MS m (A ++ e :: B) S) (hA : ∀ a ∈ A,a.key ≠ e.key) :
  ∃ S',S.mdel (some m) (KI.kv e.key) = some S' ∧ MS m (A ++ B) S' ∧ Chg (OM m (A ++ e :: B)) (OM m (A ++ B)) S S' := by
 have hd := h.dis
 rw [Yad,Yah] at hd
 have hn := h.nd
 rw [Yad,Yah] at hn
 have hsub : ∀ x,x ∈ A ++ B → x ∈ A ++ e :: B := fun x hx => by
  rcases Yab.1 hx with g | g <;> simp [g]
 refine ⟨S.put m (.map ((A ++ B).map ent)),?_,⟨Zxs _ _ _,?_,fun x hx => (h.si x (hsub x hx)).keep (fun id ho => Zxd _ (fun q => by subst q; exact h.nm x (hsub x hx) ho)) (Yaa _),?_,fun x hx => h.nm x (hsub x hx),h.lt⟩,⟨Yaa _,fun id _ g2 => Zxd _ (fun q => g2 (.inl q)),fun id ho => .inl ?_⟩⟩
 ·simp only [HS.mdel,h.mp]
  rw [mf_at rfl 0 hA]
  simp only [Option.map_some,Nat.zero_add]
  congr 3
  rw [Yau,List.eraseIdx_append_of_length_le (by simp)]
  simp
 ·rw [Yad]; exact ⟨hn.1,hn.2.1.2,fun a ha b hb => hn.2.2 a ha b (by simp [hb])⟩
 ·rw [Yad]; exact ⟨hd.1,hd.2.1.2,fun a ha b hb => hd.2.2 a ha b (by simp [hb])⟩
 ·rcases ho with g | ⟨x,hx,g⟩
  ·exact .inl g
  ·exact .inr ⟨x,hsub x hx,g⟩
theorem take_spec {k m n : Nat} {E : List En} {key : Kk} {v : Vv} {S : HS} (hk : 2000 ≤ k) (h : MS m E S) (hne : ∀ e ∈ E,e.xs ≠ []) (hc : ∀ e ∈ E,e.xs.length ≤ n) (hm : mem E key v) :
  ∃ E' S',Y82.f k (some m) key v S = some ((),S') ∧ MS m E' S' ∧ Chg (OM m E) (OM m E') S S' ∧ (∀ k' v',mem E' k' v' ↔ mem E k' v' ∧ ¬ (k' = key ∧ v' = v)) ∧ (∀ e ∈ E',e.xs ≠ []) ∧ (∀ e ∈ E',e.xs.length ≤ n) := by
 obtain ⟨e,he,hke,hve⟩ := hm
 obtain ⟨A,B,rfl,hA⟩ := split_at h.nd he hke
 subst hke
 have hi := h.si e he
 have hnd := h.nd
 rw [Yad,Yah] at hnd
 have hkB : ∀ b ∈ B,b.key ≠ e.key := fun b hb g => hnd.2.1.1 b hb g.symm
 have hlk : S.look (some m) (KI.kv e.key) = some (some (.ptr (some (HA.cell0 e.p)))) := by
  rw [HS.look,HS.mp,h.mp,obs,mf_at rfl 0 hA]; rfl
 have fl : Fr S.next S (S.lit [[.str v]] 1).2 := Zyt _ (Yaa _)
 have nl : (S.lit [[.str v]] 1).2.next = S.next + 1 := rfl
 have rl : (S.lit [[.str v]] 1).2.rows (S.lit [[.str v]] 1).1 1 = some ([v].map KS.row1) := (Vec.lit (n := 0) (z := 1) (S := S) _ (Yak _)).rows
 have ql : ∀ q,(S.lit [[.str v]] 1).1.a = some q → q.1 = S.next := fun q hq => by cases hq; rfl
 rw [Y82.f]
 erw [hlk]
 rw [obs,show dP ((some (HV.ptr (some (HA.cell0 e.p)))).getD (.ptr none)) = some (some (HA.cell0 e.p)) from rfl,obs,letv]
 generalize S.lit [[.str v]] 1 = P at fl nl rl ql ⊢
 obtain ⟨sl,S1⟩ := P
 simp only at fl nl rl ql ⊢
 have h1 := h.fr fl
 obtain ⟨s',xs',S2,e2,i2,o2,m2,c2⟩ := KS.remove_spec hk (hi.fr fl) rl (fun q hq => by
  have := ql q hq
  exact ⟨by omega,fun g => by have := hi.lt g; omega⟩) (by simp)
 obtain ⟨g1,g2⟩ := h1.upd i2 o2
 have hlk2 : S2.look (some m) (KI.kv e.key) = some (some (.ptr (some (HA.cell0 e.p)))) := by
  rw [HS.look,HS.mp,g1.mp,obs,mf_at (e := ⟨e.key,e.p,s',xs'⟩) rfl 0 hA]; rfl
 have hx : ∀ u,u ∈ xs' ↔ u ∈ e.xs ∧ u ≠ v := fun u => by rw [m2]; simp
 rw [e2,obs]
 erw [hlk2]
 rw [obs,show dP ((some (HV.ptr (some (HA.cell0 e.p)))).getD (.ptr none)) = some (some (HA.cell0 e.p)) from rfl,obs,KS.len_spec i2,obs]
 have hmem : ∀ k' v',mem (A ++ ⟨e.key,e.p,s',xs'⟩ :: B) k' v' ↔ mem (A ++ e :: B) k' v' ∧ ¬ (k' = e.key ∧ v' = v) := by
  intro k' v'
  constructor
  ·rintro ⟨x,hx1,hx2,hx3⟩
   rcases Yab.1 hx1 with g | g
   ·exact ⟨⟨x,by simp [g],hx2,hx3⟩,fun q => hA x g (hx2.trans q.1)⟩
   ·rcases Yac.1 g with rfl | g
    ·have := (hx v').1 hx3
     exact ⟨⟨e,by simp,hx2,this.1⟩,fun q => this.2 q.2⟩
    ·exact ⟨⟨x,by simp [g],hx2,hx3⟩,fun q => hkB x g (hx2.trans q.1)⟩
  ·rintro ⟨⟨x,hx1,hx2,hx3⟩,hq⟩
   rcases Yab.1 hx1 with g | g
   ·exact ⟨x,by simp [g],hx2,hx3⟩
   ·rcases Yac.1 g with rfl | g
    ·exact ⟨⟨x.key,x.p,s',xs'⟩,by simp,hx2,(hx v').2 ⟨hx3,fun q => hq ⟨hx2.symm,q⟩⟩⟩
    ·exact ⟨x,by simp [g],hx2,hx3⟩
 by_cases h0 : xs' = []
 ·subst h0
  obtain ⟨S3,e3,k1,k2⟩ := g1.del hA
  rw [if_pos (by simp)]
  erw [e3]
  rw [obs]
  refine ⟨A ++ B,S3,rfl,k1,((Chg.of_fr fl).trans g2).trans k2,fun k' v' => ?_,fun x hx => ?_,fun x hx => ?_⟩
  ·rw [← hmem]
   constructor
   ·rintro ⟨x,q1,q2,q3⟩
    refine ⟨x,?_,q2,q3⟩
    rcases Yab.1 q1 with g | g <;> simp [g]
   ·rintro ⟨x,q1,q2,q3⟩
    rcases Yab.1 q1 with g | g
    ·exact ⟨x,by simp [g],q2,q3⟩
    ·rcases Yac.1 g with rfl | g
     ·cases q3
     ·exact ⟨x,by simp [g],q2,q3⟩
  ·rcases Yab.1 hx with g | g <;> exact hne x (by simp [g])
  ·rcases Yab.1 hx with g | g <;> exact hc x (by simp [g])
 ·rw [if_neg (by simpa using h0)]
  refine ⟨_,S2,rfl,g1,(Chg.of_fr fl).trans g2,hmem,fun x hx => ?_,fun x hx => ?_⟩
  ·rcases Yab.1 hx with g | g
   ·exact hne x (by simp [g])
   ·rcases Yac.1 g with rfl | g
    ·exact h0
    ·exact hne x (by simp [g])
  ·rcases Yab.1 hx with g | g
   ·exact hc x (by simp [g])
   ·rcases Yac.1 g with rfl | g
    ·have := hc e (by simp); simp only; omega
    ·exact hc x (by simp [g])
end MA
namespace MB
abbrev Kk := KS.Ky
abbrev Vv := KI.Ky
structure En where
 key : Kk
 p : Nat
 s : Sl
 xs : List Vv
def ent (e : En) : HV × HV := (KS.kv e.key,.ptr (some (HA.cell0 e.p)))
theorem kSame_kv (a b : Kk) : Zabr (KS.kv a) (KS.kv b) = some (a == b) := by simp [Zabr,Zyj,KS.kv]
theorem mf_none {k : Kk} : ∀ {E : List En} (i : Nat),(∀ e ∈ E,e.key ≠ k) → mfind (KS.kv k) (E.map ent) i = some none := by
 intro E
 induction E with
 | nil => intro i _; rfl
 | cons e E ih =>
  intro i h
  rw [List.map_cons,mfind.eq_def]
  simp only [ent,kSame_kv,show (k == e.key) = false from beq_eq_false_iff_ne.2 (fun g => h e (by simp) g.symm)]
  exact ih (i + 1) fun x hx => h x (by simp [hx])
theorem mf_at {k : Kk} {e : En} {B : List En} (hk : e.key = k) : ∀ {A : List En} (i : Nat),(∀ a ∈ A,a.key ≠ k) → mfind (KS.kv k) ((A ++ e :: B).map ent) i = some (some (i + A.length,.ptr (some (HA.cell0 e.p)))) := by
 intro A
 induction A with
 | nil =>
  intro i _
  rw [Yay,List.map_cons,mfind.eq_def]
  simp only [ent,kSame_kv,hk,beq_self_eq_true]
  rfl
 | cons a A ih =>
  intro i h
  rw [List.cons_append,List.map_cons,mfind.eq_def]
  simp only [ent,kSame_kv,show (k == a.key) = false from beq_eq_false_iff_ne.2 (fun g => h a (by simp) g.symm)]
  rw [ih (i + 1) fun x hx => h x (by simp [hx])]
  simp; omega
structure MS (m : Nat) (E : List En) (S : HS) : Prop where
 mp : S.heap m = .map (E.map ent)
 nd : E.Pairwise fun a b => a.key ≠ b.key
 si : ∀ e ∈ E,KI.SI e.p e.s e.xs S
 dis : E.Pairwise fun a b => ∀ id,Own a.p a.s id → ¬ Own b.p b.s id
 nm : ∀ e ∈ E,¬ Own e.p e.s m
 lt : m < S.next
def OM (m : Nat) (E : List En) (id : Nat) : Prop := id = m ∨ ∃ e ∈ E,Own e.p e.s id
def mem (E : List En) (k : Kk) (v : Vv) : Prop := ∃ e ∈ E,e.key = k ∧ v ∈ e.xs
theorem MS.ltO {m : Nat} {E : List En} {S : HS} (h : MS m E S) {id : Nat} (ho : OM m E id) : id < S.next := by
 rcases ho with rfl | ⟨e,he,ho⟩
 ·exact h.lt
 ·exact (h.si e he).lt ho
theorem MS.keep {m : Nat} {E : List En} {S S' : HS} (h : MS m E S) (hk : ∀ id,OM m E id → S'.heap id = S.heap id) (hn : S.next ≤ S'.next) : MS m E S' :=
 ⟨(hk m (.inl rfl)).trans h.mp,h.nd,fun e he => (h.si e he).keep (fun id ho => hk id (.inr ⟨e,he,ho⟩)) hn,h.dis,h.nm,Yai h.lt hn⟩
theorem MS.fr {m : Nat} {E : List En} {S S' : HS} (h : MS m E S) (hf : Fr S.next S S') : MS m E S' := h.keep (fun id ho => hf.eq id (h.ltO ho)) hf.le
theorem split_at {E : List En} {k : Kk} (hn : E.Pairwise fun a b => a.key ≠ b.key) {e : En} (he : e ∈ E) (hk : e.key = k) : ∃ A B,E = A ++ e :: B ∧ ∀ a ∈ A,a.key ≠ k := by
 obtain ⟨A,B,rfl⟩ := Ybd he
 refine ⟨A,B,rfl,fun a ha => ?_⟩
 rw [Yad] at hn
 have := hn.2.2 a ha e (by simp)
 rw [← hk]; exact this
theorem get_spec {m : Nat} {E : List En} {S : HS} (h : MS m E S) (k : Kk) : (S.look (some m) (KS.kv k) = some none ∧ ∀ e ∈ E,e.key ≠ k) ∨ ∃ A e B,E = A ++ e :: B ∧ e.key = k ∧ (∀ a ∈ A,a.key ≠ k) ∧ S.look (some m) (KS.kv k) = some (some (.ptr (some (HA.cell0 e.p)))) := by
 by_cases hx : ∃ e ∈ E,e.key = k
 ·obtain ⟨e,he,hk⟩ := hx
  obtain ⟨A,B,rfl,hA⟩ := split_at h.nd he hk
  refine .inr ⟨A,e,B,rfl,hk,hA,?_⟩
  rw [HS.look,HS.mp,h.mp,obs,mf_at hk 0 hA]; rfl
 ·refine .inl ⟨?_,fun e he g => hx ⟨e,he,g⟩⟩
  rw [HS.look,HS.mp,h.mp,obs,mf_none 0 fun e he g => hx ⟨e,he,g⟩]; rfl
theorem MS.upd {m : Nat} {A B : List En} {e : En} {s' : Sl} {xs' : List Vv} {S S' : HS} (h : MS m (A ++ e :: B) S) (hs : KI.SI e.p s' xs' S') (ho : Only e.p e.s s' S S') :
  MS m (A ++ ⟨e.key,e.p,s',xs'⟩ :: B) S' ∧ Chg (OM m (A ++ e :: B)) (OM m (A ++ ⟨e.key,e.p,s',xs'⟩ :: B)) S S' := by
 have hle := ho.le
 have hd := h.dis
 rw [Yad,Yah] at hd
 have hn := h.nd
 rw [Yad,Yah] at hn
 have hso : ∀ id,Own e.p s' id → Own e.p e.s id ∨ S.next ≤ id := ho.own
 have hoth : ∀ a,a ∈ A ∨ a ∈ B → a ∈ A ++ e :: B ∧ ∀ id,Own a.p a.s id → ¬ Own e.p e.s id := fun a ha => by
  rcases ha with g | g
  ·exact ⟨by simp [g],fun id h1 h2 => hd.2.2 a g e (by simp) id h1 h2⟩
  ·exact ⟨by simp [g],fun id h1 h2 => hd.2.1.1 a g id h2 h1⟩
 have hnew : ∀ a,a ∈ A ∨ a ∈ B → ∀ id,Own a.p a.s id → ¬ Own e.p s' id := fun a ha id h1 h2 => by
  rcases hso id h2 with g | g
  ·exact (hoth a ha).2 id h1 g
  ·have := (h.si a (hoth a ha).1).lt h1; omega
 refine ⟨⟨?_,?_,fun x hx => ?_,?_,fun x hx => ?_,by have := h.lt; omega⟩,⟨hle,fun id h1 h2 => ho.eq id h1 fun g => h2 (.inr ⟨e,by simp,g⟩),fun id hid => ?_⟩⟩
 ·rw [ho.eq m h.lt (h.nm e (by simp)),h.mp]
  simp [ent]
 ·rw [Yad,Yah]
  refine ⟨hn.1,⟨hn.2.1.1,hn.2.1.2⟩,fun a ha b hb => ?_⟩
  rcases Yac.1 hb with rfl | hb
  ·exact hn.2.2 a ha e (by simp)
  ·exact hn.2.2 a ha b (by simp [hb])
 ·rcases Yab.1 hx with g | g
  ·exact (h.si x (by simp [g])).keep (fun id h1 => ho.eq id ((h.si x (by simp [g])).lt h1) ((hoth x (.inl g)).2 id h1)) hle
  ·rcases Yac.1 g with rfl | g
   ·exact hs
   ·exact (h.si x (by simp [g])).keep (fun id h1 => ho.eq id ((h.si x (by simp [g])).lt h1) ((hoth x (.inr g)).2 id h1)) hle
 ·rw [Yad,Yah]
  refine ⟨hd.1,⟨fun b hb id h1 h2 => hnew b (.inr hb) id h2 h1,hd.2.1.2⟩,fun a ha b hb => ?_⟩
  rcases Yac.1 hb with rfl | hb
  ·exact hnew a (.inl ha)
  ·exact hd.2.2 a ha b (by simp [hb])
 ·rcases Yab.1 hx with g | g
  ·exact h.nm x (by simp [g])
  ·rcases Yac.1 g with rfl | g
   ·intro g'
    rcases hso m g' with g2 | g2
    ·exact h.nm e (by simp) g2
    ·have := h.lt; omega
   ·exact h.nm x (by simp [g])
 ·rcases hid with rfl | ⟨x,hx,g⟩
  ·exact .inl (.inl rfl)
  ·rcases Yab.1 hx with g' | g'
   ·exact .inl (.inr ⟨x,by simp [g'],g⟩)
   ·rcases Yac.1 g' with rfl | g'
    ·exact (hso id g).imp (fun q => .inr ⟨e,by simp,q⟩) id_
    ·exact .inl (.inr ⟨x,by simp [g'],g⟩)
where id_ {p : Prop} (h : p) : p := h
theorem j0_spec {k m : Nat} {A B : List En} {e : En} {v : Vv} {S : HS} (hk : 2000 ≤ k) (h : MS m (A ++ e :: B) S) (hA : ∀ a ∈ A,a.key ≠ e.key) (hc : e.xs.length < 1000) :
  ∃ s' xs' S',Y56.J0 k (some m) e.key v S = some ((),S') ∧ MS m (A ++ ⟨e.key,e.p,s',xs'⟩ :: B) S' ∧ Chg (OM m (A ++ e :: B)) (OM m (A ++ ⟨e.key,e.p,s',xs'⟩ :: B)) S S' ∧ (∀ u,u ∈ xs' ↔ u ∈ e.xs ∨ u = v) ∧ xs'.length ≤ e.xs.length + 1 := by
 have he := h.si e (by simp)
 have hlk : S.look (some m) (KS.kv e.key) = some (some (.ptr (some (HA.cell0 e.p)))) := by
  rw [HS.look,HS.mp,h.mp,obs,mf_at rfl 0 hA]; rfl
 have fl : Fr S.next S (S.lit [[.int .i64 v]] 1).2 := Zyt _ (Yaa _)
 have nl : (S.lit [[.int .i64 v]] 1).2.next = S.next + 1 := rfl
 have rl : (S.lit [[.int .i64 v]] 1).2.rows (S.lit [[.int .i64 v]] 1).1 1 = some ([v].map KI.row1) := (Vec.lit (n := 0) (z := 1) (S := S) _ (Yak _)).rows
 have ql : ∀ q,(S.lit [[.int .i64 v]] 1).1.a = some q → q.1 = S.next := fun q hq => by cases hq; rfl
 rw [Y56.J0]
 erw [hlk]
 rw [obs,show dP ((some (HV.ptr (some (HA.cell0 e.p)))).getD (.ptr none)) = some (some (HA.cell0 e.p)) from rfl,obs,letv]
 generalize S.lit [[.int .i64 v]] 1 = P at fl nl rl ql ⊢
 obtain ⟨sl,S1⟩ := P
 simp only at fl nl rl ql ⊢
 have h1 := h.fr fl
 have he1 := he.fr fl
 obtain ⟨s',xs',S2,e2,i2,o2,m2,c2,c2'⟩ := KI.add_spec hk he1 rl (fun q hq => by
  have := ql q hq
  exact ⟨by omega,fun g => by have := he.lt g; omega⟩) (by simp; omega)
 obtain ⟨g1,g2⟩ := h1.upd i2 o2
 rw [e2,obs]
 exact ⟨s',xs',S2,rfl,g1,(Chg.of_fr fl).trans g2,fun u => by rw [m2]; simp,by simpa using c2'⟩
theorem put_spec {k m n : Nat} {E : List En} {key : Kk} {v : Vv} {S : HS} (hk : 2000 ≤ k) (h : MS m E S) (hne : ∀ e ∈ E,e.xs ≠ []) (hc : ∀ e ∈ E,e.xs.length ≤ n) (hn : n < 1000) :
  ∃ E' S',Y56.f k (some m) key v S = some ((),S') ∧ MS m E' S' ∧ Chg (OM m E) (OM m E') S S' ∧ (∀ k' v',mem E' k' v' ↔ mem E k' v' ∨ (k' = key ∧ v' = v)) ∧ (∀ e ∈ E',e.xs ≠ []) ∧ (∀ e ∈ E',e.xs.length ≤ n + 1) := by
 have hmem : ∀ (A B : List En) (e : En) (s' : Sl) (xs' : List Vv),e.key = key → (∀ u,u ∈ xs' ↔ u ∈ e.xs ∨ u = v) → ∀ k' v',mem (A ++ ⟨e.key,e.p,s',xs'⟩ :: B) k' v' ↔ mem (A ++ e :: B) k' v' ∨ (k' = key ∧ v' = v) := by
  intro A B e s' xs' hke hx k' v'
  constructor
  ·rintro ⟨x,hx1,hx2,hx3⟩
   rcases Yab.1 hx1 with g | g
   ·exact .inl ⟨x,by simp [g],hx2,hx3⟩
   ·rcases Yac.1 g with rfl | g
    ·rcases (hx v').1 hx3 with g2 | g2
     ·exact .inl ⟨e,by simp,hx2,g2⟩
     ·exact .inr ⟨by rw [← hx2]; exact hke,g2⟩
    ·exact .inl ⟨x,by simp [g],hx2,hx3⟩
  ·rintro (⟨x,hx1,hx2,hx3⟩ | ⟨rfl,rfl⟩)
   ·rcases Yab.1 hx1 with g | g
    ·exact ⟨x,by simp [g],hx2,hx3⟩
    ·rcases Yac.1 g with rfl | g
     ·exact ⟨⟨x.key,x.p,s',xs'⟩,by simp,hx2,(hx v').2 (.inl hx3)⟩
     ·exact ⟨x,by simp [g],hx2,hx3⟩
   ·exact ⟨⟨e.key,e.p,s',xs'⟩,by simp,hke,(hx _).2 (.inr rfl)⟩
 rw [Y56.f]
 rcases get_spec h key with ⟨e1,hno⟩ | ⟨A,e,B,rfl,hke,hA,e1⟩
 ·obtain ⟨s,xs,S1,e2,i2,f2,o2,m2,c2⟩ := KI.of_spec (k := k) (sl := Sl.nil) (ls := []) (S := S) hk ⟨rfl,fun q hq => by cases hq⟩ (by simp)
  have hx : xs = [] := by simpa using c2
  subst hx
  have h1 := h.fr f2
  have le2 := f2.le
  have hput : S1.mput (some m) (KS.kv key) (.ptr (some (HA.cell0 S.next))) = some (S1.put m (.map ((E ++ [(⟨key,S.next,s,[]⟩ : En)]).map ent))) := by
   simp only [HS.mput,h1.mp]
   rw [mf_none 0 hno]
   simp [ent]
  erw [e1]
  rw [obs,show dP ((none : Option HV).getD (.ptr none)) = some none from rfl,obs,if_pos (by rfl),e2,obs]
  erw [hput]
  rw [obs]
  have hmO : ∀ id,Own S.next s id → id ≠ m := fun id g => by have := o2 id g; have := h.lt; omega
  have h2 : MS m (E ++ (⟨key,S.next,s,[]⟩ : En) :: []) (S1.put m (.map ((E ++ [(⟨key,S.next,s,[]⟩ : En)]).map ent))) := by
   refine ⟨Zxs _ _ _,?_,fun x hx => ?_,?_,fun x hx => ?_,by rw [Zxr]; have := h.lt; omega⟩
   ·rw [Yad]
    exact ⟨h.nd,List.pairwise_singleton _ _,fun a ha b hb => by simp at hb; subst hb; exact hno a ha⟩
   ·rcases Yab.1 hx with g | g
    ·exact (h1.si x g).keep (fun id ho => Zxd _ (fun q => by subst q; exact h1.nm x g ho)) (Yaa _)
    ·simp at g; subst g; exact i2.keep (fun id ho => Zxd _ (hmO id ho)) (Yaa _)
   ·rw [Yad]
    refine ⟨h.dis,List.pairwise_singleton _ _,fun a ha b hb id g1 g2 => ?_⟩
    simp at hb; subst hb
    have := (h.si a ha).lt g1
    have := o2 id g2
    omega
   ·rcases Yab.1 hx with g | g
    ·exact h.nm x g
    ·simp at g; subst g; exact fun ho => hmO m ho rfl
  have hch : Chg (OM m E) (OM m (E ++ (⟨key,S.next,s,[]⟩ : En) :: [])) S (S1.put m (.map ((E ++ [(⟨key,S.next,s,[]⟩ : En)]).map ent))) := by
   refine ⟨by rw [Zxr]; omega,fun id g1 g2 => by rw [Zxd _ (fun q => g2 (.inl q))]; exact f2.eq id g1,fun id ho => ?_⟩
   rcases ho with g | ⟨x,hx,g⟩
   ·exact .inl (.inl g)
   ·rcases Yab.1 hx with g' | g'
    ·exact .inl (.inr ⟨x,g',g⟩)
    ·simp at g'; subst g'; exact .inr (o2 id g)
  obtain ⟨s',xs',S3,e3,g1,g2,g3,g4⟩ := j0_spec (v := v) hk h2 hno (by simp)
  refine ⟨_,S3,e3,g1,hch.trans g2,fun k' v' => ?_,fun x hx => ?_,fun x hx => ?_⟩
  ·rw [hmem E [] ⟨key,S.next,s,[]⟩ s' xs' rfl g3]
   have : mem (E ++ (⟨key,S.next,s,[]⟩ : En) :: []) k' v' ↔ mem E k' v' := by
    constructor
    ·rintro ⟨x,hx,q1,q2⟩
     rcases Yab.1 hx with g | g
     ·exact ⟨x,g,q1,q2⟩
     ·simp at g; subst g; cases q2
    ·rintro ⟨x,hx,q1,q2⟩; exact ⟨x,by simp [hx],q1,q2⟩
   rw [this]
  ·rcases Yab.1 hx with g | g
   ·exact hne x g
   ·simp at g; subst g
    intro q
    have := (g3 v).2 (.inr rfl)
    simp only at q
    rw [q] at this; cases this
  ·rcases Yab.1 hx with g | g
   ·have := hc x g; omega
   ·simp at g; subst g; simp at g4; simp; omega
 ·subst hke
  obtain ⟨s',xs',S3,e3,g1,g2,g3,g4⟩ := j0_spec (v := v) hk h hA (by have := hc e (by simp); omega)
  erw [e1]
  rw [obs,show dP ((some (HV.ptr (some (HA.cell0 e.p)))).getD (.ptr none)) = some (some (HA.cell0 e.p)) from rfl,obs,if_neg (by simp),e3]
  refine ⟨_,S3,rfl,g1,g2,fun k' v' => hmem A B e s' xs' rfl g3 k' v',fun x hx => ?_,fun x hx => ?_⟩
  ·rcases Yab.1 hx with g | g
   ·exact hne x (by simp [g])
   ·rcases Yac.1 g with rfl | g
    ·intro q
     have := (g3 v).2 (.inr rfl)
     simp only at q
     rw [q] at this; cases this
    ·exact hne x (by simp [g])
  ·rcases Yab.1 hx with g | g
   ·have := hc x (by simp [g]); omega
   ·rcases Yac.1 g with rfl | g
    ·have := hc e (by simp); simp only; omega
    ·have := hc x (by simp [g]); omega
theorem MS.del {m : Nat} {A B : List En} {e : En} {S : HS} (h : MS m (A ++ e :: B) S) (hA : ∀ a ∈ A,a.key ≠ e.key) :
  ∃ S',S.mdel (some m) (KS.kv e.key) = some S' ∧ MS m (A ++ B) S' ∧ Chg (OM m (A ++ e :: B)) (OM m (A ++ B)) S S' := by
 have hd := h.dis
 rw [Yad,Yah] at hd
 have hn := h.nd
 rw [Yad,Yah] at hn
 have hsub : ∀ x,x ∈ A ++ B → x ∈ A ++ e :: B := fun x hx => by
  rcases Yab.1 hx with g | g <;> simp [g]
 refine ⟨S.put m (.map ((A ++ B).map ent)),?_,⟨Zxs _ _ _,?_,fun x hx => (h.si x (hsub x hx)).keep (fun id ho => Zxd _ (fun q => by subst q; exact h.nm x (hsub x hx) ho)) (Yaa _),?_,fun x hx => h.nm x (hsub x hx),h.lt⟩,⟨Yaa _,fun id _ g2 => Zxd _ (fun q => g2 (.inl q)),fun id ho => .inl ?_⟩⟩
 ·simp only [HS.mdel,h.mp]
  rw [mf_at rfl 0 hA]
  simp only [Option.map_some,Nat.zero_add]
  congr 3
  rw [Yau,List.eraseIdx_append_of_length_le (by simp)]
  simp
 ·rw [Yad]; exact ⟨hn.1,hn.2.1.2,fun a ha b hb => hn.2.2 a ha b (by simp [hb])⟩
 ·rw [Yad]; exact ⟨hd.1,hd.2.1.2,fun a ha b hb => hd.2.2 a ha b (by simp [hb])⟩
 ·rcases ho with g | ⟨x,hx,g⟩
  ·exact .inl g
  ·exact .inr ⟨x,hsub x hx,g⟩
theorem take_spec {k m n : Nat} {E : List En} {key : Kk} {v : Vv} {S : HS} (hk : 2000 ≤ k) (h : MS m E S) (hne : ∀ e ∈ E,e.xs ≠ []) (hc : ∀ e ∈ E,e.xs.length ≤ n) (hm : mem E key v) :
  ∃ E' S',Y89.f k (some m) key v S = some ((),S') ∧ MS m E' S' ∧ Chg (OM m E) (OM m E') S S' ∧ (∀ k' v',mem E' k' v' ↔ mem E k' v' ∧ ¬ (k' = key ∧ v' = v)) ∧ (∀ e ∈ E',e.xs ≠ []) ∧ (∀ e ∈ E',e.xs.length ≤ n) := by
 obtain ⟨e,he,hke,hve⟩ := hm
 obtain ⟨A,B,rfl,hA⟩ := split_at h.nd he hke
 subst hke
 have hi := h.si e he
 have hnd := h.nd
 rw [Yad,Yah] at hnd
 have hkB : ∀ b ∈ B,b.key ≠ e.key := fun b hb g => hnd.2.1.1 b hb g.symm
 have hlk : S.look (some m) (KS.kv e.key) = some (some (.ptr (some (HA.cell0 e.p)))) := by
  rw [HS.look,HS.mp,h.mp,obs,mf_at rfl 0 hA]; rfl
 have fl : Fr S.next S (S.lit [[.int .i64 v]] 1).2 := Zyt _ (Yaa _)
 have nl : (S.lit [[.int .i64 v]] 1).2.next = S.next + 1 := rfl
 have rl : (S.lit [[.int .i64 v]] 1).2.rows (S.lit [[.int .i64 v]] 1).1 1 = some ([v].map KI.row1) := (Vec.lit (n := 0) (z := 1) (S := S) _ (Yak _)).rows
 have ql : ∀ q,(S.lit [[.int .i64 v]] 1).1.a = some q → q.1 = S.next := fun q hq => by cases hq; rfl
 rw [Y89.f]
 erw [hlk]
 rw [obs,show dP ((some (HV.ptr (some (HA.cell0 e.p)))).getD (.ptr none)) = some (some (HA.cell0 e.p)) from rfl,obs,letv]
 generalize S.lit [[.int .i64 v]] 1 = P at fl nl rl ql ⊢
 obtain ⟨sl,S1⟩ := P
 simp only at fl nl rl ql ⊢
 have h1 := h.fr fl
 obtain ⟨s',xs',S2,e2,i2,o2,m2,c2⟩ := KI.remove_spec hk (hi.fr fl) rl (fun q hq => by
  have := ql q hq
  exact ⟨by omega,fun g => by have := hi.lt g; omega⟩) (by simp)
 obtain ⟨g1,g2⟩ := h1.upd i2 o2
 have hlk2 : S2.look (some m) (KS.kv e.key) = some (some (.ptr (some (HA.cell0 e.p)))) := by
  rw [HS.look,HS.mp,g1.mp,obs,mf_at (e := ⟨e.key,e.p,s',xs'⟩) rfl 0 hA]; rfl
 have hx : ∀ u,u ∈ xs' ↔ u ∈ e.xs ∧ u ≠ v := fun u => by rw [m2]; simp
 rw [e2,obs]
 erw [hlk2]
 rw [obs,show dP ((some (HV.ptr (some (HA.cell0 e.p)))).getD (.ptr none)) = some (some (HA.cell0 e.p)) from rfl,obs,KI.len_spec i2,obs]
 have hmem : ∀ k' v',mem (A ++ ⟨e.key,e.p,s',xs'⟩ :: B) k' v' ↔ mem (A ++ e :: B) k' v' ∧ ¬ (k' = e.key ∧ v' = v) := by
  intro k' v'
  constructor
  ·rintro ⟨x,hx1,hx2,hx3⟩
   rcases Yab.1 hx1 with g | g
   ·exact ⟨⟨x,by simp [g],hx2,hx3⟩,fun q => hA x g (hx2.trans q.1)⟩
   ·rcases Yac.1 g with rfl | g
    ·have := (hx v').1 hx3
     exact ⟨⟨e,by simp,hx2,this.1⟩,fun q => this.2 q.2⟩
    ·exact ⟨⟨x,by simp [g],hx2,hx3⟩,fun q => hkB x g (hx2.trans q.1)⟩
  ·rintro ⟨⟨x,hx1,hx2,hx3⟩,hq⟩
   rcases Yab.1 hx1 with g | g
   ·exact ⟨x,by simp [g],hx2,hx3⟩
   ·rcases Yac.1 g with rfl | g
    ·exact ⟨⟨x.key,x.p,s',xs'⟩,by simp,hx2,(hx v').2 ⟨hx3,fun q => hq ⟨hx2.symm,q⟩⟩⟩
    ·exact ⟨x,by simp [g],hx2,hx3⟩
 by_cases h0 : xs' = []
 ·subst h0
  obtain ⟨S3,e3,k1,k2⟩ := g1.del hA
  rw [if_pos (by simp)]
  erw [e3]
  rw [obs]
  refine ⟨A ++ B,S3,rfl,k1,((Chg.of_fr fl).trans g2).trans k2,fun k' v' => ?_,fun x hx => ?_,fun x hx => ?_⟩
  ·rw [← hmem]
   constructor
   ·rintro ⟨x,q1,q2,q3⟩
    refine ⟨x,?_,q2,q3⟩
    rcases Yab.1 q1 with g | g <;> simp [g]
   ·rintro ⟨x,q1,q2,q3⟩
    rcases Yab.1 q1 with g | g
    ·exact ⟨x,by simp [g],q2,q3⟩
    ·rcases Yac.1 g with rfl | g
     ·cases q3
     ·exact ⟨x,by simp [g],q2,q3⟩
  ·rcases Yab.1 hx with g | g <;> exact hne x (by simp [g])
  ·rcases Yab.1 hx with g | g <;> exact hc x (by simp [g])
 ·rw [if_neg (by simpa using h0)]
  refine ⟨_,S2,rfl,g1,(Chg.of_fr fl).trans g2,hmem,fun x hx => ?_,fun x hx => ?_⟩
  ·rcases Yab.1 hx with g | g
   ·exact hne x (by simp [g])
   ·rcases Yac.1 g with rfl | g
    ·exact h0
    ·exact hne x (by simp [g])
  ·rcases Yab.1 hx with g | g
   ·exact hc x (by simp [g])
   ·rcases Yac.1 g with rfl | g
    ·have := hc e (by simp); simp only; omega
    ·exact hc x (by simp [g])
end MB
abbrev Pr := Int × List UInt8
def wo (x : Pr) (L : List Pr) : List Pr := L.filter fun p => !decide (p = x)
theorem Zagm {x p : Pr} {L : List Pr} : p ∈ wo x L ↔ p ∈ L ∧ p ≠ x := by simp [wo]
theorem wo_len {x : Pr} {L : List Pr} (h : L.Nodup) (hx : x ∈ L) : (wo x L).length = L.length - 1 := by
 have : wo x L = L.erase x := by
  rw [h.erase_eq_filter,wo]
  congr 1
  funext p
  by_cases hp : p = x <;> simp [hp]
 rw [this,List.length_erase_of_mem hx]
theorem wo_no {x : Pr} {L : List Pr} (hx : x ∉ L) : wo x L = L := List.filter_eq_self.2 fun p hp => by simp; rintro rfl; exact hx hp
def OR (r m1 m2 : Nat) (E1 : List MA.En) (E2 : List MB.En) (id : Nat) : Prop := id = r ∨ MA.OM m1 E1 id ∨ MB.OM m2 E2 id
structure RelI (r m1 m2 n : Nat) (most : Int) (E1 : List MA.En) (E2 : List MB.En) (L : List Pr) (S : HS) : Prop where
 cell : S.heap r = .cells 4 [[.int .i64 most,.int .i64 L.length,.map (some m1),.map (some m2)]] true
 ms1 : MA.MS m1 E1 S
 ms2 : MB.MS m2 E2 S
 d12 : ∀ id,MA.OM m1 E1 id → ¬ MB.OM m2 E2 id
 dr1 : ¬ MA.OM m1 E1 r
 dr2 : ¬ MB.OM m2 E2 r
 lt : r < S.next
 me1 : ∀ a b,MA.mem E1 a b ↔ (a,b) ∈ L
 me2 : ∀ b a,MB.mem E2 b a ↔ (a,b) ∈ L
 ne1 : ∀ e ∈ E1,e.xs ≠ []
 ne2 : ∀ e ∈ E2,e.xs ≠ []
 c1 : ∀ e ∈ E1,e.xs.length ≤ n
 c2 : ∀ e ∈ E2,e.xs.length ≤ n
 nd : L.Nodup
 ll : L.length ≤ n
 nn : n ≤ 900
section
variable {r m1 m2 n : Nat} {most : Int} {E1 : List MA.En} {E2 : List MB.En} {L : List Pr} {S : HS}
theorem RelI.ltO (h : RelI r m1 m2 n most E1 E2 L S) {id : Nat} (ho : OR r m1 m2 E1 E2 id) : id < S.next := by
 rcases ho with rfl | g | g
 ·exact h.lt
 ·exact h.ms1.ltO g
 ·exact h.ms2.ltO g
theorem RelI.keep {S' : HS} (h : RelI r m1 m2 n most E1 E2 L S) (hk : ∀ id,OR r m1 m2 E1 E2 id → S'.heap id = S.heap id) (hn : S.next ≤ S'.next) : RelI r m1 m2 n most E1 E2 L S' :=
 ⟨(hk r (.inl rfl)).trans h.cell,h.ms1.keep (fun id g => hk id (.inr (.inl g))) hn,h.ms2.keep (fun id g => hk id (.inr (.inr g))) hn,h.d12,h.dr1,h.dr2,Yai h.lt hn,h.me1,h.me2,h.ne1,h.ne2,h.c1,h.c2,h.nd,h.ll,h.nn⟩
theorem RelI.fr {S' : HS} (h : RelI r m1 m2 n most E1 E2 L S) (hf : Fr S.next S S') : RelI r m1 m2 n most E1 E2 L S' := h.keep (fun id ho => hf.eq id (h.ltO ho)) hf.le
theorem RelI.mono {n' : Nat} (h : RelI r m1 m2 n most E1 E2 L S) (hn : n ≤ n') (hn' : n' ≤ 900) : RelI r m1 m2 n' most E1 E2 L S := { h with c1 := fun e he => Ya2 (h.c1 e he) hn,c2 := fun e he => Ya2 (h.c2 e he) hn,ll := Ya2 h.ll hn,nn := hn' }
theorem RelI.ld1 (h : RelI r m1 m2 n most E1 E2 L S) : S.ldM (HA.fld (HA.cell0 r) 2) = some (some m1) := Zafs (Zxu h.cell) rfl rfl
theorem RelI.ldm (h : RelI r m1 m2 n most E1 E2 L S) : S.ldI .i64 (HA.fld (HA.cell0 r) 0) = some most := Zx8 (Zxu h.cell) rfl rfl
theorem RelI.at1 (h : RelI r m1 m2 n most E1 E2 L S) (a : Int) : ∃ xs,KS.Srt xs ∧ (∀ v,v ∈ xs ↔ (a,v) ∈ L) ∧ xs.length ≤ n ∧ ((S.look (some m1) (.int .i64 a) = some none ∧ xs = []) ∨ ∃ p s,S.look (some m1) (.int .i64 a) = some (some (.ptr (some (HA.cell0 p)))) ∧ KS.SI p s xs S ∧ ∀ id,Own p s id → MA.OM m1 E1 id) := by
 rcases MA.get_spec h.ms1 a with ⟨e1,hno⟩ | ⟨A,e,B,hE,hk,hA,e1⟩
 ·refine ⟨[],List.Pairwise.nil,fun v => ?_,by simp,.inl ⟨e1,rfl⟩⟩
  rw [← h.me1]
  exact ⟨fun g => (by cases g),fun ⟨e,he,hk,_⟩ => absurd hk (hno e he)⟩
 ·have he : e ∈ E1 := by rw [hE]; simp
  refine ⟨e.xs,(h.ms1.si e he).srt,fun v => ?_,h.c1 e he,.inr ⟨e.p,e.s,e1,h.ms1.si e he,fun id g => .inr ⟨e,he,g⟩⟩⟩
  rw [← h.me1]
  refine ⟨fun g => ⟨e,he,hk,g⟩,fun ⟨x,hx,hxk,hv⟩ => ?_⟩
  have : x = e := by
   have hn := h.ms1.nd
   rw [hE] at hx hn
   rw [Yad,Yah] at hn
   rcases Yab.1 hx with g | g
   ·exact absurd hxk (hA x g)
   ·rcases Yac.1 g with g | g
    ·exact g
    ·exact absurd (hk.trans hxk.symm) (hn.2.1.1 x g)
  rw [← this]; exact hv
theorem Zafu : dP ((none : Option HV).getD (.ptr none)) = some none := rfl
theorem Zafv (q : Option HA) : dP ((some (HV.ptr q)).getD (.ptr none)) = some q := rfl
theorem Zafw {k : Nat} (hk : 2000 ≤ k) (h : RelI r m1 m2 n most E1 E2 L S) (a : Int) (b : List UInt8) : Y16.f k (some (HA.cell0 r)) a b S = some (decide ((a,b) ∈ L),S) := by
 obtain ⟨xs,h1,h2,h3,h4⟩ := h.at1 a
 rw [Y16.f,if_pos (by rfl),obs,h.ld1,obs]
 rcases h4 with ⟨e,rfl⟩ | ⟨p,s,e,hs,_⟩
 ·rw [e,obs,Zafu,obs,Y68.f,if_pos (by rfl),obs,Y16.J0,decide_eq_false (fun g => by have := (h2 b).2 g; cases this)]
 ·rw [e,obs,Zafv,obs,KS.has_spec hk hs,obs,Y16.J0]
  simp only [h2]
theorem Zai1 (h : RelI r m1 m2 n most E1 E2 L S) (a : Int) {xs : List KS.Ky} (hs : KS.Srt xs) (hm : ∀ v,v ∈ xs ↔ (a,v) ∈ L) : Y84.f (some (HA.cell0 r)) a S = some ((xs.length : Int),S) := by
 obtain ⟨ys,h1,h2,h3,h4⟩ := h.at1 a
 have : ys = xs := KS.srt_ext h1 hs fun v => by rw [h2,hm]
 subst this
 rw [Y84.f,if_neg (by simp),obs,h.ld1,obs]
 rcases h4 with ⟨e,rfl⟩ | ⟨p,s,e,hs,_⟩
 ·rw [e,obs,Zafu,obs,Y35.f,if_pos (by rfl)]; rfl
 ·rw [e,obs,Zafv,obs,KS.len_spec hs]; rfl
theorem of_rel {nD : Nat} (h : RelI r m1 m2 n most E1 E2 L S) (a : Int) {xs : List KS.Ky} (hs : KS.Srt xs) (hm : ∀ v,v ∈ xs ↔ (a,v) ∈ L) : ∃ fn u v S1 K,Y61.f (some (HA.cell0 r)) a S = some (.fn fn u v,S1) ∧ Tells (disp 2000 (nD + 2)) (.fn fn u v) (xs.map KS.row1) K S1 ∧ (∀ id,K id → S.next ≤ id ∧ id < S1.next) ∧ Fr S.next S S1 := by
 obtain ⟨ys,h1,h2,h3,h4⟩ := h.at1 a
 have hy : ys = xs := KS.srt_ext h1 hs fun v => by rw [h2,hm]
 subst hy
 have hnn := h.nn
 have key : ∃ c s' S1,Y61.f (some (HA.cell0 r)) a S = some (.fn (.func 130) [] [.ptr (some (HA.cell0 c))],S1) ∧ S1.heap c = .cells 1 [[s'.hv]] true ∧ S1.rows s' 1 = some (ys.map KS.row1) ∧ (S.next ≤ c ∧ c < S1.next) ∧ (∀ q,s'.a = some q → S.next ≤ q.1 ∧ q.1 < S1.next) ∧ Fr S.next S S1 := by
  rw [Y61.f,if_neg (by simp),obs,h.ld1,obs]
  rcases h4 with ⟨e,rfl⟩ | ⟨p,s,e,hs,_⟩
  ·rw [e,obs,Zafu,obs,Y70.f,Y64.f,if_pos (by rfl),obs,Y76.f,letv,obs]
   exact ⟨S.next,_,_,rfl,Zxv _ _,rfl,⟨Yaa _,Yaw _⟩,fun q hq => (by cases hq),Fr.new (Yaa _) _⟩
  ·obtain ⟨c,s',S1,e2,g1,g2,g3,g4,g5⟩ := KS.all_spec hs
   rw [e,obs,Zafv,obs,e2,obs]
   exact ⟨c,s',S1,rfl,g1,g2,g3,g4,g5⟩
 obtain ⟨c,s',S1,e,g1,g2,g3,g4,g5⟩ := key
 exact ⟨_,_,_,S1,fun id => id = c ∨ ∃ q,s'.a = some q ∧ q.1 = id,e,KS.values_tells (by omega) (by omega) g1 g2 _ ⟨.inl rfl,fun q hq => .inr ⟨q,hq,rfl⟩⟩,fun id hid => by
  rcases hid with rfl | ⟨q,hq,rfl⟩
  ·exact g3
  ·exact g4 q hq,g5⟩
theorem Zai2 {i : Int} {S : HS} {m1 m2 : Nat} (h : S.heap r = .cells 4 [[.int .i64 most,.int .i64 i,.map (some m1),.map (some m2)]] true) (j : Int) : S.sets (HA.fld (HA.cell0 r) 1) [.int .i64 j] = some (S.put r (.cells 4 [[.int .i64 most,.int .i64 j,.map (some m1),.map (some m2)]] true)) := (Zyo h rfl (by simp)).trans rfl
theorem RelI.step {n' : Nat} {E1' : List MA.En} {E2' : List MB.En} {L' : List Pr} {S1 S2 : HS} (h : RelI r m1 m2 n most E1 E2 L S) (h1 : MA.MS m1 E1' S1) (ch1 : Chg (MA.OM m1 E1) (MA.OM m1 E1') S S1) (h2 : MB.MS m2 E2' S2) (ch2 : Chg (MB.OM m2 E2) (MB.OM m2 E2') S1 S2)
  (me1 : ∀ a b,MA.mem E1' a b ↔ (a,b) ∈ L') (me2 : ∀ b a,MB.mem E2' b a ↔ (a,b) ∈ L') (ne1 : ∀ e ∈ E1',e.xs ≠ []) (ne2 : ∀ e ∈ E2',e.xs ≠ []) (c1 : ∀ e ∈ E1',e.xs.length ≤ n') (c2 : ∀ e ∈ E2',e.xs.length ≤ n') (nd : L'.Nodup) (ll : L'.length ≤ n') (nn : n' ≤ 900) :
  S2.heap r = S.heap r ∧ RelI r m1 m2 n' most E1' E2' L' (S2.put r (.cells 4 [[.int .i64 most,.int .i64 L'.length,.map (some m1),.map (some m2)]] true)) ∧ Chg (OR r m1 m2 E1 E2) (OR r m1 m2 E1' E2') S (S2.put r (.cells 4 [[.int .i64 most,.int .i64 L'.length,.map (some m1),.map (some m2)]] true)) := by
 have l1 := ch1.le
 have l2 := ch2.le
 have hr := h.lt
 have o1 : ∀ id,MA.OM m1 E1' id → ¬ MB.OM m2 E2 id := fun id g1 g2 => by
  rcases ch1.own id g1 with g | g
  ·exact h.d12 id g g2
  ·have := h.ms2.ltO g2; omega
 have d12 : ∀ id,MA.OM m1 E1' id → ¬ MB.OM m2 E2' id := fun id g1 g2 => by
  rcases ch2.own id g2 with g | g
  ·exact o1 id g1 g
  ·have := h1.ltO g1; omega
 have dr1 : ¬ MA.OM m1 E1' r := fun g => by
  rcases ch1.own r g with g' | g'
  ·exact h.dr1 g'
  ·omega
 have dr2 : ¬ MB.OM m2 E2' r := fun g => by
  rcases ch2.own r g with g' | g'
  ·exact h.dr2 g'
  ·omega
 refine ⟨(ch2.eq r (by omega) h.dr2).trans (ch1.eq r hr h.dr1),⟨Zxs _ _ _,?_,?_,d12,dr1,dr2,by rw [Zxr]; omega,me1,me2,ne1,ne2,c1,c2,nd,ll,nn⟩,⟨by rw [Zxr]; omega,fun id g1 g2 => ?_,fun id g => ?_⟩⟩
 ·exact h1.keep (fun id g => by
   have := h1.ltO g
   rw [Zxd _ (fun e => dr1 (by rw [← e]; exact g)),ch2.eq id this (o1 id g)]) (by rw [Zxr]; omega)
 ·exact h2.keep (fun id g => Zxd _ (fun e => dr2 (by rw [← e]; exact g))) (Yaa _)
 ·rw [Zxd _ (fun e => g2 (.inl e)),ch2.eq id (by omega) (fun g => g2 (.inr (.inr g))),ch1.eq id g1 (fun g => g2 (.inr (.inl g)))]
 ·rcases g with g | g | g
  ·exact .inl (.inl g)
  ·exact (ch1.own id g).imp (fun g => .inr (.inl g)) (fun g => g)
  ·rcases ch2.own id g with g' | g'
   ·exact .inl (.inr (.inr g'))
   ·exact .inr (by omega)
theorem Zai3 {k : Nat} (hk : 2000 ≤ k) (h : RelI r m1 m2 n most E1 E2 L S) (hn : n + 1 ≤ 900) (a : Int) (b : List UInt8) {xs : List KS.Ky} (hs : KS.Srt xs) (hm : ∀ v,v ∈ xs ↔ (a,v) ∈ L) :
  ∃ E1' E2' S',Y88.f k (some (HA.cell0 r)) a b S = some ((if (a,b) ∈ L then 6 else if most ≤ xs.length then 7 else 0),S') ∧ RelI r m1 m2 (n + 1) most E1' E2' (if (a,b) ∈ L then L else if most ≤ xs.length then L else L ++ [(a,b)]) S' ∧ Chg (OR r m1 m2 E1 E2) (OR r m1 m2 E1' E2') S S' := by
 rw [Y88.f,if_neg (by simp),Zafw hk h,obs]
 by_cases hin : (a,b) ∈ L
 ·simp only [hin,decide_true,if_true]
  exact ⟨E1,E2,S,rfl,h.mono (by omega) hn,Chg.refl _ _⟩
 ·simp only [hin,decide_false,if_false,Bool.false_eq_true]
  rw [Zai1 h a hs hm,obs,obs]
  simp only [h.ldm,obs,if_true]
  by_cases hf : most ≤ (xs.length : Int)
  ·simp only [if_pos (show (xs.length : Int) ≥ most from hf),if_pos hf]
   exact ⟨E1,E2,S,rfl,h.mono (by omega) hn,Chg.refl _ _⟩
  ·obtain ⟨E1',S1,e1,g1,g2,g3,g4,g5⟩ := MA.put_spec (v := b) (key := a) hk h.ms1 h.ne1 h.c1 (by omega)
   have l1 := g2.le
   have h2 : MB.MS m2 E2 S1 := h.ms2.keep (fun id g => g2.eq id (h.ms2.ltO g) (fun g' => h.d12 id g' g)) l1
   obtain ⟨E2',S2,e2,k1,k2,k3,k4,k5⟩ := MB.put_spec (v := a) (key := b) hk h2 h.ne2 h.c2 (by omega)
   have hcell1 : S1.heap r = S.heap r := g2.eq r h.lt h.dr1
   obtain ⟨q1,q2,q3⟩ := h.step (L' := L ++ [(a,b)]) g1 g2 k1 k2 (fun a' b' => by rw [g3,h.me1]; simp) (fun b' a' => by rw [k3,h.me2]; simp [and_comm]) g4 k4 g5 k5 (by
    rw [List.nodup_append]
    exact ⟨h.nd,by simp,fun x hx y hy => by simp at hy; subst hy; intro e; subst e; exact hin hx⟩) (by simp; exact h.ll) hn
   have hld2 : S1.ldM (HA.fld (HA.cell0 r) 3) = some (some m2) := Zafs (Zxu (hcell1.trans h.cell)) rfl rfl
   have hcell2 := q1.trans h.cell
   have hldn : S2.ldI .i64 (HA.fld (HA.cell0 r) 1) = some (L.length : Int) := Zx8 (Zxu hcell2) rfl rfl
   have hll := h.ll
   simp only [if_neg (show ¬ ((xs.length : Int) ≥ most) from hf),if_neg hf,h.ld1,obs,e1,hld2,e2,hldn]
   rw [Zx2 (by omega) (by omega),Zai2 hcell2,obs,show ((L.length : Int) + 1) = ((L ++ [(a,b)]).length : Int) by simp]
   exact ⟨E1',E2',_,rfl,q2,q3⟩
theorem Zahj {k : Nat} (hk : 2000 ≤ k) (h : RelI r m1 m2 n most E1 E2 L S) (a : Int) (b : List UInt8) :
  ∃ E1' E2' S',Y77.f k (some (HA.cell0 r)) a b S = some (decide ((a,b) ∈ L),S') ∧ RelI r m1 m2 n most E1' E2' (wo (a,b) L) S' ∧ Chg (OR r m1 m2 E1 E2) (OR r m1 m2 E1' E2') S S' := by
 rw [Y77.f,Zafw hk h,obs]
 by_cases hin : (a,b) ∈ L
 ·simp only [hin,decide_true,Bool.not_true,Bool.false_eq_true,if_false]
  obtain ⟨E1',S1,e1,g1,g2,g3,g4,g5⟩ := MA.take_spec (v := b) (key := a) hk h.ms1 h.ne1 h.c1 ((h.me1 a b).2 hin)
  have l1 := g2.le
  have h2 : MB.MS m2 E2 S1 := h.ms2.keep (fun id g => g2.eq id (h.ms2.ltO g) (fun g' => h.d12 id g' g)) l1
  obtain ⟨E2',S2,e2,k1,k2,k3,k4,k5⟩ := MB.take_spec (v := a) (key := b) hk h2 h.ne2 h.c2 ((h.me2 b a).2 hin)
  have hcell1 : S1.heap r = S.heap r := g2.eq r h.lt h.dr1
  have hfl := wo_len h.nd hin
  have hpos : 0 < L.length := List.length_pos_of_mem hin
  have hll := h.ll
  have hnn := h.nn
  obtain ⟨q1,q2,q3⟩ := h.step (n' := n) (L' := wo (a,b) L) g1 g2 k1 k2 (fun a' b' => by rw [g3,h.me1,Zagm,Ne,Prod.mk.injEq]) (fun b' a' => by rw [k3,h.me2,Zagm,Ne,Prod.mk.injEq]; simp only [and_comm]) g4 k4 g5 k5 (h.nd.sublist List.filter_sublist) (by omega) h.nn
  have hld2 : S1.ldM (HA.fld (HA.cell0 r) 3) = some (some m2) := Zafs (Zxu (hcell1.trans h.cell)) rfl rfl
  have hcell2 := q1.trans h.cell
  have hldn : S2.ldI .i64 (HA.fld (HA.cell0 r) 1) = some (L.length : Int) := Zx8 (Zxu hcell2) rfl rfl
  simp only [h.ld1,obs,e1,hld2,e2,hldn]
  rw [Zx2 (by omega) (by omega),Zai2 hcell2,obs,show ((L.length : Int) - 1) = ((wo (a,b) L).length : Int) by rw [hfl]; omega]
  exact ⟨E1',E2',_,rfl,q2,q3⟩
 ·simp only [hin,decide_false,Bool.not_false,if_true]
  refine ⟨E1,E2,S,rfl,?_,Chg.refl _ _⟩
  rw [wo_no hin]
  exact h
end
def low (b : UInt8) : UInt8 := if 65 ≤ b.toNat ∧ b.toNat ≤ 93 then b + 32 else if b.toNat = 126 then 94 else b
theorem Zacc {p : UInt8 → Prop} (h : ∀ n : Fin 256,p (UInt8.ofNat n.val)) (b : UInt8) : p b := by
 have := h ⟨b.toNat,b.toNat_lt⟩
 simpa using this
theorem Zacd (b : UInt8) : Y23.f (b.toNat : Int) = some ((low b).toNat : Int) :=
 Zacc (p := fun b => Y23.f (b.toNat : Int) = some ((low b).toNat : Int)) (by decide +kernel) b
theorem low_low (b : UInt8) : low (low b) = low b := Zacc (p := fun b => low (low b) = low b) (by decide +kernel) b
def look (y : Nat) : List UInt8 → List UInt8 → Nat
 | a :: s,b :: t => if a.toNat = y then b.toNat else look y s t
 | _,_ => y
theorem Zaes {k y : Nat} {src dst : List UInt8} (hl : dst.length = src.length) (hs : src.length ≤ 100000) : ∀ (n i : Nat),src.length - i < n → i ≤ src.length →
  Y49.L0 k n y src dst (i : Int) = some (look y (src.drop i) (dst.drop i) : Int) := by
 intro n
 induction n with
 | zero => intro i h; omega
 | succ n ih =>
  intro i h hi
  unfold Y49.L0
  by_cases hlt : i < src.length
  ·rw [if_pos (by omega),Zac0 hlt,obs,Yal hlt,Yal (show i < dst.length by omega)]
   by_cases he : src[i].toNat = y
   ·rw [if_pos (by omega),Zac0 (show i < dst.length by omega)]
    simp [look,he]
   ·rw [if_neg (by omega),Zx2 (by omega) (by omega)]
    have := ih (i + 1) (by omega) (by omega)
    rw [show ((i : Int) + 1) = ((i + 1 : Nat) : Int) by simp,this]
    simp [look,he]
  ·rw [if_neg (by omega),Ya6 (by omega)]
   simp [look]
theorem Zaet {k : Nat} (hk : 31 ≤ k) (b : UInt8) : Y49.f k (b.toNat : Int) = some ((low b).toNat : Int) := by
 unfold Y49.f
 have := Zaes (k := k) (y := b.toNat) (src := [65,66,67,68,69,70,71,72,73,74,75,76,77,78,79,80,81,82,83,84,85,86,87,88,89,90,91,93,92,126]) (dst := [97,98,99,100,101,102,103,104,105,106,107,108,109,110,111,112,113,114,115,116,117,118,119,120,121,122,123,125,124,94]) rfl (by decide) k 0 (by simp; omega) (by simp)
 refine this.trans ?_
 congr 2
 exact Zacc (p := fun b => look b.toNat (List.drop 0 [65,66,67,68,69,70,71,72,73,74,75,76,77,78,79,80,81,82,83,84,85,86,87,88,89,90,91,93,92,126]) (List.drop 0 [97,98,99,100,101,102,103,104,105,106,107,108,109,110,111,112,113,114,115,116,117,118,119,120,121,122,123,125,124,94]) = (low b).toNat) (by decide +kernel) b
theorem row_of (b : UInt8) : [[HV.int .u8 (b.toNat : Int)]] = Zyc [b] := rfl
theorem Zabd {x : List UInt8} {i : Nat} (h : i < x.length) : (x.take (i + 1)).map low = (x.take i).map low ++ [low x[i]] := by
 rw [Yaf h,Yau]; rfl
theorem Zaiv {k m : Nat} {x : List UInt8} (hx : x.length ≤ 100000) : ∀ (n i : Nat) (s : Sl) (S : HS),x.length - i < n → i ≤ x.length → m ≤ S.next → Vec m S 1 s (Zyc ((x.take i).map low)) →
  ∃ S',Y33.L0 k n x s (x.length : Int) (i : Int) S = some (x.map low,S') ∧ Fr m S S' := by
 intro n
 induction n with
 | zero => intro i s S h; omega
 | succ n ih =>
  intro i s S h hi hm hv
  unfold Y33.L0
  by_cases hlt : i < x.length
  ·rw [if_pos (by omega),Zac0 hlt,obs,Zacd,obs,letv,row_of]
   have hl := Vec.lit (n := m) (z := 1) (S := S) (Zyc [low x[i]]) hm
   rw [hl.rows,obs]
   have hv2 : Vec m (S.lit (Zyc [low x[i]]) 1).2 1 s (Zyc ((x.take i).map low)) := hv.new _
   obtain ⟨s',S',e,hv3,hf⟩ := hv2.app (new := Zyc [low x[i]]) (Ya2 hm (Zyt (n := 0) _ (Yak _)).le) (by simp [Zyc]; omega)
   rw [e,obs,Zx2 (by omega) (by omega),show ((i : Int) + 1) = ((i + 1 : Nat) : Int) by simp]
   rw [← Zadj,← Zabd hlt] at hv3
   have hf0 := (Zyt (n := m) (z := 1) (S := S) (Zyc [low x[i]]) hm).trans hf
   obtain ⟨S2,e2,hf2⟩ := ih (i + 1) s' S' (by omega) (by omega) (Ya2 hm hf0.le) hv3
   exact ⟨S2,e2,hf0.trans hf2⟩
  ·obtain rfl : i = x.length := by omega
   rw [Yao] at hv
   rw [if_neg (by omega),hv.text]
   exact ⟨S,rfl,Fr.refl _ _⟩
theorem Zaeu {k m : Nat} {x : List UInt8} {S : HS} (hx : x.length ≤ 100000) (hk : x.length < k) (hm : m ≤ S.next) : ∃ S',Y33.f k x S = some (x.map low,S') ∧ Fr m S S' := by
 unfold Y33.f
 obtain ⟨s,S1,e,hv,hf⟩ := Vec.make (n := m) (S := S) (c := x.length) (zr := [.int .u8 0]) hm (by omega) (by omega)
 rw [e,obs]
 obtain ⟨S2,e2,hf2⟩ := Zaiv (k := k) (m := m) hx k 0 s S1 (by omega) (by omega) (Ya2 hm hf.le) hv
 exact ⟨S2,e2,hf.trans hf2⟩
theorem Zaev {k m : Nat} {x : List UInt8} (hx : x.length ≤ 100000) (hk : 31 ≤ k) : ∀ (n i : Nat) (S : HS),x.length - i < n → i ≤ x.length → m ≤ S.next →
  ∃ S',Y6.L0 k n x ((x.take i).map low) (i : Int) S = some (x.map low,S') ∧ Fr m S S' := by
 intro n
 induction n with
 | zero => intro i S h; omega
 | succ n ih =>
  intro i S h hi hm
  unfold Y6.L0
  by_cases hlt : i < x.length
  ·rw [if_pos (by omega),Zac0 hlt,obs,Zaet hk,obs,letv,row_of]
   have hl := Vec.lit (n := m) (z := 1) (S := S) (Zyc [low x[i]]) hm
   rw [hl.text,obs,if_pos (by simp; omega),Zx2 (by omega) (by omega),show ((i : Int) + 1) = ((i + 1 : Nat) : Int) by simp,← Zabd hlt]
   have hf0 := Zyt (n := m) (z := 1) (S := S) (Zyc [low x[i]]) hm
   obtain ⟨S2,e2,hf2⟩ := ih (i + 1) _ (by omega) (by omega) (Ya2 hm hf0.le)
   exact ⟨S2,e2,hf0.trans hf2⟩
  ·rw [if_neg (by omega),show i = x.length by omega,Yao]
   exact ⟨S,rfl,Fr.refl _ _⟩
theorem Zzs {k m : Nat} {x : List UInt8} {S : HS} (hx : x.length ≤ 100000) (hk : x.length < k) (hk2 : 31 ≤ k) (hm : m ≤ S.next) : ∃ S',Y6.f k x S = some (x.map low,S') ∧ Fr m S S' :=
 Zaev hx hk2 k 0 S (by omega) (by omega) hm
def cmpL : List UInt8 → List UInt8 → Int
 | [],[] => 0
 | [],_ :: _ => -1
 | _ :: _,[] => 1
 | a :: s,b :: t => if (low a).toNat < (low b).toNat then -1 else if (low b).toNat < (low a).toNat then 1 else cmpL s t
theorem Zaeo {k : Nat} {x y : List UInt8} (hx : x.length ≤ 100000) : ∀ (n i : Nat),min x.length y.length - i < n → i ≤ min x.length y.length →
  Y53.L0 k n x y (min x.length y.length : Nat) (i : Int) = some (cmpL (x.drop i) (y.drop i)) := by
 intro n
 induction n with
 | zero => intro i h; omega
 | succ n ih =>
  intro i h hi
  unfold Y53.L0
  by_cases hlt : i < min x.length y.length
  ·have h1 : i < x.length := by omega
   have h2 : i < y.length := by omega
   rw [if_pos (by omega),Zac0 h1,obs,Zacd,obs,Zac0 h2,obs,Zacd,obs,Yal h1,Yal h2,cmpL]
   by_cases c1 : (low x[i]).toNat < (low y[i]).toNat
   ·rw [if_pos (by omega),if_pos c1]
   ·rw [if_neg (by omega),if_neg c1]
    by_cases c2 : (low y[i]).toNat < (low x[i]).toNat
    ·rw [if_pos (by omega),if_pos c2]
    ·rw [if_neg (by omega),if_neg c2,Zx2 (by omega) (by omega),show ((i : Int) + 1) = ((i + 1 : Nat) : Int) by simp]
     exact ih (i + 1) (by omega) (by omega)
  ·rw [if_neg (by omega)]
   by_cases c1 : x.length < y.length
   ·rw [if_pos (by omega),Ya6 (show x.length ≤ i by omega),Yal (show i < y.length by omega),cmpL]
   ·rw [if_neg (by omega)]
    by_cases c2 : y.length < x.length
    ·rw [if_pos (by omega),Ya6 (show y.length ≤ i by omega),Yal (show i < x.length by omega),cmpL]
    ·rw [if_neg (by omega),Ya6 (show y.length ≤ i by omega),Ya6 (show x.length ≤ i by omega),cmpL]
theorem Zaep {k : Nat} {x y : List UInt8} (hx : x.length ≤ 100000) (hk : x.length < k) : Y53.f k x y = some (cmpL x y) := by
 unfold Y53.f
 have := Zaeo (k := k) (y := y) hx k 0 (by omega) (by omega)
 rw [show mn (x.length : Int) (y.length : Int) = ((min x.length y.length : Nat) : Int) by unfold mn; split <;> omega]
 simpa using this
theorem Zzp : ∀ (x y : List UInt8),cmpL x y = 0 ↔ x.map low = y.map low := by
 intro x
 induction x with
 | nil => intro y; cases y <;> simp [cmpL]
 | cons a s ih =>
  intro y
  cases y with
  | nil => simp [cmpL]
  | cons b t =>
   simp only [cmpL,List.map_cons,List.cons.injEq]
   by_cases c1 : (low a).toNat < (low b).toNat
   ·rw [if_pos c1]
    constructor
    ·intro h; omega
    ·intro h; rw [h.1] at c1; omega
   ·rw [if_neg c1]
    by_cases c2 : (low b).toNat < (low a).toNat
    ·rw [if_pos c2]
     constructor
     ·intro h; omega
     ·intro h; rw [h.1] at c2; omega
    ·rw [if_neg c2,ih]
     constructor
     ·intro h; exact ⟨UInt8.toNat_inj.1 (by omega),h⟩
     ·intro h; exact h.2
theorem Zabw : ∀ (x y : List UInt8),cmpL x y = if slt (x.map low) (y.map low) = true then -1 else if x.map low = y.map low then 0 else 1 := by
 intro x
 induction x with
 | nil => intro y; cases y <;> simp [cmpL,slt]
 | cons a s ih =>
  intro y
  cases y with
  | nil => simp [cmpL,slt]
  | cons b t =>
   simp only [cmpL,List.map_cons,slt,Bool.or_eq_true,decide_eq_true_eq,Bool.and_eq_true,beq_iff_eq,UInt8.lt_iff_toNat_lt,List.cons.injEq]
   by_cases c1 : (low a).toNat < (low b).toNat
   ·simp [c1]
   ·by_cases c2 : (low b).toNat < (low a).toNat
    ·have hne : low a ≠ low b := fun h => by rw [h] at c2; omega
     simp [c1,c2,hne]
    ·have heq : low a = low b := UInt8.toNat_inj.1 (by omega)
     rw [ih]
     simp [c1,c2,heq]
theorem Zacb {k m : Nat} {x y : List UInt8} {S : HS} (hx : x.length ≤ 1000) (hy : y.length ≤ 1000) (hk : 2000 ≤ k) (hm : m ≤ S.next) : ∃ S',Y85.f k x y S = some (cmpL x y,S') ∧ Fr m S S' := by
 unfold Y85.f
 obtain ⟨S1,e1,f1⟩ := Zzs (k := k) (m := m) (x := x) (S := S) (by omega) (by omega) (by omega) hm
 obtain ⟨S2,e2,f2⟩ := Zzs (k := k) (m := m) (x := y) (S := S1) (by omega) (by omega) (by omega) (Ya2 hm f1.le)
 refine ⟨S2,?_,f1.trans f2⟩
 rw [e1,obs,e2,obs,Zabw]
 by_cases c1 : slt (x.map low) (y.map low) = true
 ·rw [if_pos c1,if_pos c1]
 ·rw [if_neg c1,if_neg c1]
  by_cases c2 : x.map low = y.map low
  ·rw [if_neg (by simp [c2]),if_pos c2]
  ·rw [if_pos (by simp [c1,c2]),if_neg c2]
theorem Zzi : ∀ (x y : List UInt8),cmpL y x = - cmpL x y := by
 intro x
 induction x with
 | nil => intro y; cases y <;> simp [cmpL]
 | cons a s ih =>
  intro y
  cases y with
  | nil => simp [cmpL]
  | cons b t =>
   simp only [cmpL]
   by_cases c1 : (low a).toNat < (low b).toNat
   ·simp [c1,show ¬ (low b).toNat < (low a).toNat by omega]
   ·by_cases c2 : (low b).toNat < (low a).toNat
    ·simp [c1,c2]
    ·simp [c1,c2,ih]
theorem Zac3 : ∀ (x y z : List UInt8),cmpL x y ≤ 0 → cmpL y z ≤ 0 → cmpL x z ≤ 0 := by
 intro x
 induction x with
 | nil => intro y z _ _; cases z <;> simp [cmpL]
 | cons a s ih =>
  intro y z h1 h2
  cases y with
  | nil => simp [cmpL] at h1
  | cons b t =>
   cases z with
   | nil => simp [cmpL] at h2
   | cons c u =>
    simp only [cmpL] at h1 h2 ⊢
    by_cases c1 : (low b).toNat < (low a).toNat
    ·rw [if_neg (by omega),if_pos c1] at h1; omega
    by_cases c2 : (low c).toNat < (low b).toNat
    ·rw [if_neg (by omega),if_pos c2] at h2; omega
    by_cases c3 : (low a).toNat < (low c).toNat
    ·rw [if_pos c3]; omega
    ·rw [if_neg c3,if_neg (by omega)]
     rw [if_neg (by omega),if_neg c1] at h1
     rw [if_neg (by omega),if_neg c2] at h2
     exact ih _ _ h1 h2
namespace BK
theorem cmpL_lt_trans {a b c : List UInt8} (h1 : cmpL a b < 0) (h2 : cmpL b c < 0) : cmpL a c < 0 := by
 have h3 := Zac3 a b c (by omega) (by omega)
 rcases Int.lt_or_eq_of_le h3 with h | h
 ·exact h
 ·have h4 : cmpL c a = 0 := by rw [Zzi a c,h]; rfl
  have h5 := Zac3 b c a (by omega) (by omega)
  rw [Zzi a b] at h5
  omega
theorem Zaag {a b c : List UInt8} (h : cmpL a b = 0) : cmpL a c = cmpL b c := by
 rw [Zzp] at h
 rw [Zabw,Zabw,h]
theorem Zadu {a b c : List UInt8} (h : cmpL a b = 0) : cmpL c a = cmpL c b := by
 rw [Zzi a c,Zzi b c,Zaag h]
abbrev En := List UInt8 × Option HA
def enRow (e : En) : List HV := [.str e.1,.ptr e.2]
def Srt (es : List En) : Prop := es.Pairwise fun a b => cmpL a.1 b.1 < 0
theorem Srt.lt {es : List En} (h : Srt es) {i j : Nat} (hi : i < es.length) (hj : j < es.length) (hij : i < j) : cmpL es[i].1 es[j].1 < 0 := Yap.1 h i j hi hj hij
structure PosOf (es : List En) (t : List UInt8) (p : Nat) : Prop where
 le : p ≤ es.length
 lo : ∀ q (hq : q < es.length),q < p → cmpL es[q].1 t < 0
 hi : ∀ q (hq : q < es.length),p ≤ q → ¬ cmpL es[q].1 t < 0
def foundAt (es : List En) (t : List UInt8) (p : Nat) : Bool := match es[p]? with | some e => decide (cmpL e.1 t = 0) | none => false
theorem PosOf.gt {es : List En} {t : List UInt8} {p : Nat} (h : PosOf es t p) (hs : Srt es) (hf : foundAt es t p = false) {q : Nat} (hq : q < es.length) (hpq : p ≤ q) : cmpL t es[q].1 < 0 := by
 have hp : p < es.length := by omega
 have h1 := h.hi p hp (Yaa _)
 have h2 : cmpL es[p].1 t ≠ 0 := by
  simp only [foundAt,List.getElem?_eq_getElem hp,decide_eq_false_iff_not] at hf
  exact hf
 have h3 : cmpL t es[p].1 < 0 := by rw [Zzi]; omega
 rcases Nat.eq_or_lt_of_le hpq with e | e
 ·subst e; exact h3
 ·exact cmpL_lt_trans h3 (hs.lt hp hq e)
theorem ins_srt {es : List En} {t : List UInt8} {p : Nat} (h : PosOf es t p) (hs : Srt es) (hf : foundAt es t p = false) (v : Option HA) : Srt (es.take p ++ [(t,v)] ++ es.drop p) := by
 unfold Srt
 rw [Ya8,Yad]
 refine ⟨List.Pairwise.sublist (List.take_sublist _ _) hs,?_,fun a ha b hb => ?_⟩
 ·rw [List.singleton_append,Yah]
  refine ⟨fun b hb => ?_,List.Pairwise.sublist (List.drop_sublist _ _) hs⟩
  obtain ⟨q,hq,rfl⟩ := Yag hb
  rw [Yat]
  exact h.gt hs hf _ (by omega)
 ·obtain ⟨q,hq,rfl⟩ := Yag ha
  rw [Yar] at hq
  rw [Ybl]
  have h1 := h.lo q (by omega) (by omega)
  rcases Yab.1 hb with hb | hb
  ·simp only [Yaq] at hb
   subst hb; exact h1
  ·obtain ⟨q2,hq2,rfl⟩ := Yag hb
   rw [Yat]
   rw [Ya1] at hq2
   exact hs.lt (by omega) (by omega) (by omega)
theorem set_srt {es : List En} {t : List UInt8} {p : Nat} (hs : Srt es) (hf : foundAt es t p = true) (v : Option HA) : Srt (es.set p (t,v)) := by
 have hp : p < es.length := by
  unfold foundAt at hf
  cases he : es[p]? with
  | none => rw [he] at hf; cases hf
  | some e => exact (List.getElem?_eq_some_iff.1 he).1
 have h0 : cmpL es[p].1 t = 0 := by
  simp only [foundAt,List.getElem?_eq_getElem hp,decide_eq_true_eq] at hf
  exact hf
 refine Yap.2 fun i j hi hj hij => ?_
 rw [List.length_set] at hi hj
 rw [List.getElem_set,List.getElem_set]
 have := hs.lt hi hj hij
 split
 ·rename_i e
  subst e
  rw [if_neg (by omega)]
  rw [← Zaag h0]; exact this
 ·split
  ·rename_i e
   subst e
   rw [← Zadu h0]; exact this
  ·exact this
theorem erase_srt {es : List En} (hs : Srt es) (p : Nat) : Srt (es.eraseIdx p) := List.Pairwise.sublist (List.eraseIdx_sublist _ _) hs
theorem erase_away {es : List En} {t : List UInt8} {p : Nat} (hs : Srt es) (hf : foundAt es t p = true) : ∀ e ∈ es.eraseIdx p,e ∈ es ∧ cmpL t e.1 ≠ 0 := by
 have hp : p < es.length := by
  unfold foundAt at hf
  cases he : es[p]? with
  | none => rw [he] at hf; cases hf
  | some e => exact (List.getElem?_eq_some_iff.1 he).1
 have h0 : cmpL es[p].1 t = 0 := by
  simp only [foundAt,List.getElem?_eq_getElem hp,decide_eq_true_eq] at hf
  exact hf
 intro e he
 rw [List.mem_eraseIdx_iff_getElem] at he
 obtain ⟨q,hq,hne,rfl⟩ := he
 refine ⟨Yae hq,fun hc => ?_⟩
 have h1 : cmpL es[p].1 es[q].1 = 0 := by rw [Zaag h0]; exact hc
 rcases Yan p q with h | h
 ·have := hs.lt hp hq h; omega
 ·have h2 := hs.lt hq hp (by omega)
  rw [Zzi] at h1; omega
theorem none_alike {es : List En} {t : List UInt8} {p : Nat} (h : PosOf es t p) (hs : Srt es) (hf : foundAt es t p = false) : ∀ e ∈ es,cmpL t e.1 ≠ 0 := by
 intro e he hc
 obtain ⟨q,hq,rfl⟩ := Yag he
 rcases Yan q p with h1 | h1
 ·have := h.lo q hq h1; rw [Zzi] at hc; omega
 ·have := h.gt hs hf hq h1; omega
end BK
namespace BK
def CmpF (D : Dp) (H : Hd) (fv : HV) (t : List UInt8) : Prop := ∀ (e : En) (S : HS),e.1.length ≤ 1000 → ∃ S',D H fv [.agg (enRow e),.str t] S = some (.int .i64 (cmpL e.1 t),S') ∧ Fr S.next S S'
theorem cmpF {k n : Nat} {H : Hd} {t : List UInt8} (hk : 2000 ≤ k) : CmpF (disp k (n + 1)) H (HV.fn (.func 103) [] []) t := by
 intro e S he
 have hcell : (S.new (.cells 2 [[.str e.1,.ptr e.2]] true)).heap S.next = .cells 2 [[.str e.1,.ptr e.2]] true := Zxv _ _
 refine ⟨S.new (.cells 2 [[.str e.1,.ptr e.2]] true),?_,Fr.new (Yaa _) _⟩
 have e' : Zaan (disp k n) H k ([] ++ [HV.agg (enRow e),.str t] ++ []) S = some (.int .i64 (cmpL e.1 t),S.new (.cells 2 [[.str e.1,.ptr e.2]] true)) := by
  rw [Zaan]
  simp only [Yay,Ya7,Zaa6,enRow,dA2,dS,dP,obs,if_true]
  rw [Y102.f,letv,Zaae (Zxu hcell) rfl rfl,obs,Zaep (by omega) (by omega),obs]
  rfl
 rw [Zzq]
 simp only [if_true,if_false,e']
theorem en_rows {S : HS} {s : Sl} {xs : List En} (h : S.rows s 2 = some (xs.map enRow)) {i : Nat} (hi : i < xs.length) : ∃ ad,S.idx s (i : Int) 2 = some ad ∧ S.ldS (HA.fld ad 0) = some xs[i].1 ∧ S.ldP (HA.fld ad 1) = some xs[i].2 := by
 obtain ⟨ad,h1,h2,h3⟩ := Zabt h (i := i) (by simpa using hi)
 rw [Yaj] at h3
 exact ⟨ad,h1,Zaae h3 h2 rfl,Zadn h3 h2 rfl⟩
theorem search_loop {D : Dp} {H : Hd} {k : Nat} {s : Sl} {t : List UInt8} {fv : HV} {es : List En} (hc : CmpF D H fv t) (hs : Srt es) (hl : ∀ e ∈ es,e.1.length ≤ 1000) (hle : es.length ≤ 100000) :
  ∀ (n i j : Nat) (S : HS),j - i < n → i ≤ j → j ≤ es.length → Rd S.next S 2 s (es.map enRow) → (∀ q (hq : q < es.length),q < i → cmpL es[q].1 t < 0) → (∀ q (hq : q < es.length),j ≤ q → ¬ cmpL es[q].1 t < 0) →
  ∃ (p : Nat) (S' : HS),Y47.L0 D H k n s t fv (es.length : Int) (i : Int) (j : Int) S = some (((p : Int),foundAt es t p),S') ∧ PosOf es t p ∧ Fr S.next S S' := by
 intro n
 induction n with
 | zero => intro i j S h; omega
 | succ n ih =>
  intro i j S hf hij hj hrd hlo hhi
  unfold Y47.L0
  by_cases hlt : i < j
  ·rw [if_pos (by omega),Zagk (by omega)]
   have hm : (i + j) / 2 < es.length := by omega
   obtain ⟨ad,a1,a2,a3⟩ := en_rows hrd.rows hm
   obtain ⟨S1,e1,f1⟩ := hc es[(i + j) / 2] S (hl _ (Yae _))
   have hrd1 : Rd S1.next S1 2 s (es.map enRow) := (hrd.frame f1 (Yaa _)).mono f1.le
   have e1' : D H fv [HV.agg [HV.str es[(i + j) / 2].1,HV.ptr es[(i + j) / 2].2],HV.str t] S = some (.int .i64 (cmpL es[(i + j) / 2].1 t),S1) := e1
   rw [a1,obs,a2,obs,a3,obs,e1',obs]
   simp only [dI,if_true,obs]
   by_cases hc0 : cmpL es[(i + j) / 2].1 t < 0
   ·rw [if_pos hc0,Zx2 (by omega) (by omega),show ((((i + j) / 2 : Nat) : Int) + 1) = (((i + j) / 2 + 1 : Nat) : Int) by simp]
    obtain ⟨p,S2,e2,p2,f2⟩ := ih ((i + j) / 2 + 1) j S1 (by omega) (by omega) hj hrd1 (fun q hq hqi => by
     rcases Yan q ((i + j) / 2) with h | h
     ·exact cmpL_lt_trans (hs.lt hq hm h) hc0
     ·obtain rfl : q = (i + j) / 2 := by omega
      exact hc0) hhi
    exact ⟨p,S2,e2,p2,f1.trans (f2.mono f1.le)⟩
   ·rw [if_neg hc0]
    obtain ⟨p,S2,e2,p2,f2⟩ := ih i ((i + j) / 2) S1 (by omega) (by omega) (by omega) hrd1 hlo (fun q hq hqi => by
     rcases Yan ((i + j) / 2) q with h | h
     ·intro hcc
      exact hc0 (cmpL_lt_trans (hs.lt hm hq h) hcc)
     ·obtain rfl : q = (i + j) / 2 := by omega
      exact hc0)
    exact ⟨p,S2,e2,p2,f1.trans (f2.mono f1.le)⟩
  ·obtain rfl : i = j := by omega
   rw [if_neg (by omega)]
   have hp : PosOf es t i := ⟨hj,hlo,hhi⟩
   by_cases hend : i < es.length
   ·obtain ⟨ad,a1,a2,a3⟩ := en_rows hrd.rows hend
    obtain ⟨S1,e1,f1⟩ := hc es[i] S (hl _ (Yae _))
    have e1' : D H fv [HV.agg [HV.str es[i].1,HV.ptr es[i].2],HV.str t] S = some (.int .i64 (cmpL es[i].1 t),S1) := e1
    rw [if_pos (by omega),a1,obs,a2,obs,a3,obs,e1',obs]
    simp only [dI,if_true,obs,Y47.J1]
    refine ⟨i,S1,?_,hp,f1⟩
    simp [foundAt,List.getElem?_eq_getElem hend]
   ·rw [if_neg (by omega),Y47.J1]
    refine ⟨i,S,?_,hp,Fr.refl _ _⟩
    simp [foundAt,List.getElem?_eq_none (show es.length ≤ i by omega)]
structure BI (p : Nat) (s : Sl) (most : Int) (es : List En) (S : HS) : Prop where
 cell : S.heap p = .cells 2 [[.int .i64 most,s.hv]] true
 ov : OV S 2 s (es.map enRow)
 ne : ∀ q,s.a = some q → q.1 ≠ p
 hi : p < S.next
 srt : Srt es
 len : ∀ e ∈ es,e.1.length ≤ 1000
 cnt : es.length ≤ 1000
theorem BI.lt {p : Nat} {s : Sl} {most : Int} {es : List En} {S : HS} (h : BI p s most es S) {id : Nat} (ho : Own p s id) : id < S.next := by
 rcases ho with rfl | ⟨q,h1,rfl⟩
 ·exact h.hi
 ·exact h.ov.lt h1
theorem BI.keep {p : Nat} {s : Sl} {most : Int} {es : List En} {S S' : HS} (h : BI p s most es S) (he : ∀ id,Own p s id → S'.heap id = S.heap id) (hn : S.next ≤ S'.next) : BI p s most es S' :=
 ⟨(he p (.inl rfl)).trans h.cell,h.ov.keep (fun q hq => he q.1 (.inr ⟨q,hq,rfl⟩)) hn,h.ne,Yai h.hi hn,h.srt,h.len,h.cnt⟩
theorem BI.fr {p : Nat} {s : Sl} {most : Int} {es : List En} {S S' : HS} (h : BI p s most es S) (hf : Fr S.next S S') : BI p s most es S' := h.keep (fun id ho => hf.eq id (h.lt ho)) hf.le
theorem BI.row {p : Nat} {s : Sl} {most : Int} {es : List En} {S : HS} (h : BI p s most es S) : S.row (HA.cell0 p).id (HA.cell0 p).i = some [.int .i64 most,s.hv] := Zxu h.cell
theorem BI.slen {p : Nat} {s : Sl} {most : Int} {es : List En} {S : HS} (h : BI p s most es S) : s.len = es.length := by rw [h.ov.len]; simp
theorem BI.rd {p : Nat} {s : Sl} {most : Int} {es : List En} {S : HS} (h : BI p s most es S) : Rd S.next S 2 s (es.map enRow) := ⟨h.ov.rows,fun q hq => h.ov.lt hq⟩
theorem Zafr {k n p : Nat} {H : Hd} {s : Sl} {most : Int} {es : List En} {S : HS} (hk : 2000 ≤ k) (h : BI p s most es S) (t : List UInt8) :
  ∃ (i : Nat) (S' : HS),Y17.f (disp k (n + 1)) H k (some (HA.cell0 p)) t S = some (((i : Int),foundAt es t i),S') ∧ PosOf es t i ∧ Fr S.next S S' := by
 obtain ⟨i,S',e,h1,h2⟩ := search_loop (k := k) (fv := HV.fn (.func 103) [] []) (cmpF (n := n) (H := H) (t := t) (show 2000 ≤ k by omega)) h.srt h.len (by have := h.cnt; omega) k 0 es.length S (by have := h.cnt; omega) (Yak _) (Yaa _) h.rd (fun q _ hq => by omega) (fun q hq hq2 => by omega)
 refine ⟨i,S',?_,h1,h2⟩
 rw [Y17.f,if_neg (by simp),obs,Zy2 h.row rfl rfl,obs,Y47.f,h.slen]
 rw [show ((0 : Nat) : Int) = 0 from rfl] at e
 rw [e,obs]
def putL (most : Int) (es : List En) (i : Nat) (t : List UInt8) (v : Option HA) : List En := if foundAt es t i then es.set i (t,v) else if (es.length : Int) ≥ most then es else es.take i ++ [(t,v)] ++ es.drop i
def putR (most : Int) (es : List En) (i : Nat) (t : List UInt8) : Int := if foundAt es t i then 0 else if (es.length : Int) ≥ most then 7 else 0
theorem found_lt {es : List En} {t : List UInt8} {i : Nat} (h : foundAt es t i = true) : i < es.length := by
 unfold foundAt at h
 cases he : es[i]? with
 | none => rw [he] at h; cases h
 | some e => exact (List.getElem?_eq_some_iff.1 he).1
theorem OV.set_ {S : HS} {s : Sl} {rows : List (List HV)} {z : Nat} (h : OV S z s rows) {i : Nat} {row : List HV} (hi : i < rows.length) (hr : row.length = rows[i].length) :
  ∃ ad S',S.idx s (i : Int) z = some ad ∧ S.sets ad row = some S' ∧ OV S' z s (rows.set i row) ∧ S'.next = S.next ∧ (∀ id,(∀ q,s.a = some q → q.1 ≠ id) → S'.heap id = S.heap id) := by
 rcases h with ⟨_,_,rfl⟩ | ⟨id,rfl,h2,h3⟩
 ·simp at hi
 ·refine ⟨⟨id,i,0⟩,S.put id (.cells z (rows.set i row) true),by simp [HS.idx,h2,hi],?_,.inr ⟨id,by simp,Zxs _ _ _,h3⟩,rfl,fun j hj => Zxd _ (fun e => hj _ rfl e.symm)⟩
  rw [Zyo h2 (List.getElem?_eq_getElem hi) (by omega)]
  simp [hr]
theorem put_spec {k n p : Nat} {H : Hd} {s : Sl} {most : Int} {es : List En} {S : HS} (hk : 2000 ≤ k) (h : BI p s most es S) (hroom : es.length < 1000) (t : List UInt8) (v : Option HA) (ht : t.length ≤ 1000) :
  ∃ i s' S',PosOf es t i ∧ Y50.f (disp k (n + 1)) H k (some (HA.cell0 p)) t v S = some (putR most es i t,S') ∧ BI p s' most (putL most es i t v) S' ∧ Only p s s' S S' := by
 obtain ⟨i,S1,e1,hp,f1⟩ := Zafr (n := n) (H := H) hk h t
 have h1 := h.fr f1
 refine ⟨i,?_⟩
 rw [Y50.f,if_neg (by simp),e1,obs]
 simp only [putL,putR]
 cases hf : foundAt es t i with
 | true =>
  have hi := found_lt hf
  obtain ⟨ad,S2,a1,a2,a3,a4,a5⟩ := OV.set_ h1.ov (i := i) (row := [.str t,.ptr v]) (by simpa using hi) (by simp [enRow])
  have hb : BI p s most (es.set i (t,v)) S2 := by
   refine ⟨by rw [a5 p h1.ne]; exact h1.cell,?_,h1.ne,by rw [a4]; exact h1.hi,set_srt h.srt hf v,fun e he => ?_,by simpa using h.cnt⟩
   ·have : (es.map enRow).set i [.str t,.ptr v] = (es.set i (t,v)).map enRow := by rw [List.map_set]; rfl
    rw [← this]; exact a3
   ·rcases List.mem_or_eq_of_mem_set he with g | rfl
    ·exact h.len e g
    ·exact ht
  refine ⟨s,S2,hp,?_,by simpa using hb,(Only.of_fr f1).trans ⟨by rw [a4]; exact Yaa _,fun id _ g => a5 id (fun q hq e => g (.inr ⟨q,hq,e⟩)),fun _ ho => .inl ho⟩⟩
  rw [if_pos rfl,obs,Zy2 h1.row rfl rfl,obs,a1,obs,a2,obs,Y50.J0]
  rfl
 | false =>
  rw [if_neg (by simp),obs,Zy2 h1.row rfl rfl,obs,obs,Zx8 h1.row rfl rfl,obs,h1.slen]
  by_cases hfull : (es.length : Int) ≥ most
  ·rw [if_pos hfull]
   refine ⟨s,S1,hp,by simp [hfull],by simpa [hfull] using h1,Only.of_fr f1⟩
  ·rw [if_neg hfull]
   obtain ⟨s',S2,a1,a2,a3,a4,a5⟩ := Zagi (row := [.str t,.ptr v]) h1.ov (i := i) (by simpa using hp.le) (by simp; omega)
   have hcell : S2.heap p = .cells 2 [[.int .i64 most,s.hv]] true := by rw [a4 p h1.hi h1.ne]; exact h1.cell
   have hne' : ∀ q,s'.a = some q → q.1 ≠ p := fun q hq => by have := a5 q hq; have := h1.hi; omega
   rw [obs,Zy2 h1.row rfl rfl,obs,letv,Y99.f,a1,obs,obs]
   have hsr : S2.sets (HA.fld (HA.cell0 p) 1) [s'.hv] = some (S2.put p (.cells 2 [[.int .i64 most,s'.hv]] true)) := (Zyo hcell rfl (by simp)).trans rfl
   rw [hsr,obs,Y50.J0]
   have hb : BI p s' most (es.take i ++ [(t,v)] ++ es.drop i) (S2.put p (.cells 2 [[.int .i64 most,s'.hv]] true)) := by
    refine ⟨Zxs _ _ _,?_,hne',Yai h1.hi a3,ins_srt hp h.srt hf v,fun e he => ?_,?_⟩
    ·have hmap : (es.take i ++ [(t,v)] ++ es.drop i).map enRow = (es.map enRow).take i ++ [[.str t,.ptr v]] ++ (es.map enRow).drop i := by
      simp only [Yau,List.map_take,List.map_drop,List.map_cons,List.map_nil,enRow]
     rw [hmap]
     exact a2.keep (fun q hq => Zxd _ (hne' q hq)) (Yaa _)
    ·simp only [Yab,Yaq] at he
     rcases he with (g | rfl) | g
     ·exact h.len e (Ybj g)
     ·exact ht
     ·exact h.len e (Ybk g)
    ·simp only [Ya3,Yar,Ya1,List.length_singleton]; omega
   refine ⟨s',S2.put p (.cells 2 [[.int .i64 most,s'.hv]] true),hp,by simp [hfull],by simpa [hfull] using hb,(Only.of_fr f1).trans ⟨by rw [Zxr]; exact a3,fun id g1 g2 => ?_,fun id ho => ?_⟩⟩
   ·rw [Zxd _ (fun e => g2 (.inl e))]
    exact a4 id g1 (fun q hq e => g2 (.inr ⟨q,hq,e⟩))
   ·rcases ho with g | ⟨q,g1,g2⟩
    ·exact .inl (.inl g)
    ·right; rw [← g2]; exact a5 q g1
theorem delete_spec {k n p : Nat} {H : Hd} {s : Sl} {most : Int} {es : List En} {S : HS} (hk : 2000 ≤ k) (h : BI p s most es S) (t : List UInt8) :
  ∃ i s' S',PosOf es t i ∧ Y52.f (disp k (n + 1)) H k (some (HA.cell0 p)) t S = some (foundAt es t i,S') ∧ BI p s' most (if foundAt es t i then es.eraseIdx i else es) S' ∧ Only p s s' S S' := by
 obtain ⟨i,S1,e1,hp,f1⟩ := Zafr (n := n) (H := H) hk h t
 have h1 := h.fr f1
 refine ⟨i,?_⟩
 rw [Y52.f,e1,obs]
 cases hf : foundAt es t i with
 | false =>
  rw [if_neg (by simp),Y52.J0]
  exact ⟨s,S1,hp,rfl,by simpa using h1,Only.of_fr f1⟩
 | true =>
  have hi := found_lt hf
  have hcnt := h.cnt
  rw [if_pos rfl,obs,Zy2 h1.row rfl rfl,obs]
  simp only
  rw [Zx2 (by omega) (by omega),show ((i : Int) + 1) = ((i + 1 : Nat) : Int) by simp]
  obtain ⟨s',S2,a1,a2,a3,a4,a5⟩ := Zagj h1.ov (i := i) (by simpa using hi) (by simp; omega)
  have hcell : S2.heap p = .cells 2 [[.int .i64 most,s.hv]] true := by rw [a4 p h1.hi h1.ne]; exact h1.cell
  have hne' : ∀ q,s'.a = some q → q.1 ≠ p := fun q hq => by have := a5 q hq; have := h1.hi; omega
  have hsr : S2.sets (HA.fld (HA.cell0 p) 1) [s'.hv] = some (S2.put p (.cells 2 [[.int .i64 most,s'.hv]] true)) := (Zyo hcell rfl (by simp)).trans rfl
  rw [Y103.f,a1,obs,obs,hsr,obs,Y52.J0]
  have hb : BI p s' most (es.eraseIdx i) (S2.put p (.cells 2 [[.int .i64 most,s'.hv]] true)) := by
   refine ⟨Zxs _ _ _,?_,hne',Yai h1.hi a3,erase_srt h.srt i,fun e he => h.len e (List.mem_of_mem_eraseIdx he),by rw [List.length_eraseIdx,if_pos hi]; omega⟩
   rw [Go.ChangeMaps.map_eraseIdx]
   exact a2.keep (fun q hq => Zxd _ (hne' q hq)) (Yaa _)
  refine ⟨s',S2.put p (.cells 2 [[.int .i64 most,s'.hv]] true),hp,rfl,by simpa using hb,(Only.of_fr f1).trans ⟨by rw [Zxr]; exact a3,fun id g1 g2 => ?_,fun id ho => ?_⟩⟩
  ·rw [Zxd _ (fun e => g2 (.inl e))]
   exact a4 id g1 (fun q hq e => g2 (.inr ⟨q,hq,e⟩))
  ·rcases ho with g | ⟨q,g1,g2⟩
   ·exact .inl (.inl g)
   ·right; rw [← g2]; exact a5 q g1
theorem len_spec {p : Nat} {s : Sl} {most : Int} {es : List En} {S : HS} (h : BI p s most es S) : Y42.f (some (HA.cell0 p)) S = some ((es.length : Int),S) := by
 rw [Y42.f,if_neg (by simp),obs,Zy2 h.row rfl rfl,obs,h.slen]
theorem get_spec {k n p : Nat} {H : Hd} {s : Sl} {most : Int} {es : List En} {S : HS} (hk : 2000 ≤ k) (h : BI p s most es S) (t : List UInt8) :
  ∃ i S',PosOf es t i ∧ Y15.f (disp k (n + 1)) H k (some (HA.cell0 p)) t S = some ((if foundAt es t i then (es[i]?.getD ([],none)).2 else none,foundAt es t i),S') ∧ Fr S.next S S' := by
 obtain ⟨i,S1,e1,hp,f1⟩ := Zafr (n := n) (H := H) hk h t
 have h1 := h.fr f1
 refine ⟨i,S1,hp,?_,f1⟩
 rw [Y15.f,e1,obs]
 cases hf : foundAt es t i with
 | false => rw [if_pos (by simp)]; rfl
 | true =>
  have hi := found_lt hf
  obtain ⟨ad,a1,a2,a3⟩ := en_rows h1.ov.rows hi
  rw [if_neg (by simp),obs,Zy2 h1.row rfl rfl,obs]
  simp only
  rw [a1,obs,a3,obs]
  simp [hi]
end BK
namespace MK
def cmpI (a b : Int) : Int := if a < b then -1 else if b < a then 1 else 0
theorem cmpI_zero (a b : Int) : cmpI a b = 0 ↔ a = b := by unfold cmpI; split <;> (try split) <;> omega
theorem cmpI_lt (a b : Int) : cmpI a b < 0 ↔ a < b := by unfold cmpI; split <;> (try split) <;> omega
theorem Zacf (a b : Int) : cmpI b a = - cmpI a b := by
 unfold cmpI
 split <;> split <;> omega
theorem Zz4 {a b c : Int} (h1 : cmpI a b < 0) (h2 : cmpI b c < 0) : cmpI a c < 0 := by rw [cmpI_lt] at *; omega
theorem Zaex {a b c : Int} (h : cmpI a b = 0) : cmpI a c = cmpI b c := by rw [cmpI_zero] at h; rw [h]
theorem cmp_spec (a b : Int) : Y78.f a b = some (cmpI a b) := by
 unfold Y78.f cmpI Y7.f
 simp
 split
 ·rfl
 ·split <;> rfl
abbrev En := Int × Bool × Bool
def enRow (e : En) : List HV := [.int .i64 e.1,.bool e.2.1,.bool e.2.2]
def Srt (es : List En) : Prop := es.Pairwise fun a b => cmpI a.1 b.1 < 0
theorem Srt.lt {es : List En} (h : Srt es) {i j : Nat} (hi : i < es.length) (hj : j < es.length) (hij : i < j) : cmpI es[i].1 es[j].1 < 0 := Yap.1 h i j hi hj hij
structure PosOf (es : List En) (t : Int) (p : Nat) : Prop where
 le : p ≤ es.length
 lo : ∀ q (hq : q < es.length),q < p → cmpI es[q].1 t < 0
 hi : ∀ q (hq : q < es.length),p ≤ q → ¬ cmpI es[q].1 t < 0
def foundAt (es : List En) (t : Int) (p : Nat) : Bool := match es[p]? with | some e => decide (cmpI e.1 t = 0) | none => false
theorem PosOf.gt {es : List En} {t : Int} {p : Nat} (h : PosOf es t p) (hs : Srt es) (hf : foundAt es t p = false) {q : Nat} (hq : q < es.length) (hpq : p ≤ q) : cmpI t es[q].1 < 0 := by
 have hp : p < es.length := by omega
 have h1 := h.hi p hp (Yaa _)
 have h2 : cmpI es[p].1 t ≠ 0 := by
  simp only [foundAt,List.getElem?_eq_getElem hp,decide_eq_false_iff_not] at hf
  exact hf
 have h3 : cmpI t es[p].1 < 0 := by rw [Zacf]; omega
 rcases Nat.eq_or_lt_of_le hpq with e | e
 ·subst e; exact h3
 ·exact Zz4 h3 (hs.lt hp hq e)
theorem ins_srt {es : List En} {t : Int} {p : Nat} (h : PosOf es t p) (hs : Srt es) (hf : foundAt es t p = false) (v : Bool × Bool) : Srt (es.take p ++ [(t,v)] ++ es.drop p) := by
 unfold Srt
 rw [Ya8,Yad]
 refine ⟨List.Pairwise.sublist (List.take_sublist _ _) hs,?_,fun a ha b hb => ?_⟩
 ·rw [List.singleton_append,Yah]
  refine ⟨fun b hb => ?_,List.Pairwise.sublist (List.drop_sublist _ _) hs⟩
  obtain ⟨q,hq,rfl⟩ := Yag hb
  rw [Yat]
  exact h.gt hs hf _ (by omega)
 ·obtain ⟨q,hq,rfl⟩ := Yag ha
  rw [Yar] at hq
  rw [Ybl]
  have h1 := h.lo q (by omega) (by omega)
  rcases Yab.1 hb with hb | hb
  ·simp only [Yaq] at hb
   subst hb; exact h1
  ·obtain ⟨q2,hq2,rfl⟩ := Yag hb
   rw [Yat]
   rw [Ya1] at hq2
   exact hs.lt (by omega) (by omega) (by omega)
theorem erase_srt {es : List En} (hs : Srt es) (p : Nat) : Srt (es.eraseIdx p) := List.Pairwise.sublist (List.eraseIdx_sublist _ _) hs
theorem erase_away {es : List En} {t : Int} {p : Nat} (hs : Srt es) (hf : foundAt es t p = true) : ∀ e ∈ es.eraseIdx p,e ∈ es ∧ cmpI t e.1 ≠ 0 := by
 have hp : p < es.length := by
  unfold foundAt at hf
  cases he : es[p]? with
  | none => rw [he] at hf; cases hf
  | some e => exact (List.getElem?_eq_some_iff.1 he).1
 have h0 : cmpI es[p].1 t = 0 := by
  simp only [foundAt,List.getElem?_eq_getElem hp,decide_eq_true_eq] at hf
  exact hf
 intro e he
 rw [List.mem_eraseIdx_iff_getElem] at he
 obtain ⟨q,hq,hne,rfl⟩ := he
 refine ⟨Yae hq,fun hc => ?_⟩
 have h1 : cmpI es[p].1 es[q].1 = 0 := by rw [Zaex h0]; exact hc
 rcases Yan p q with h | h
 ·have := hs.lt hp hq h; omega
 ·have h2 := hs.lt hq hp (by omega)
  rw [Zacf] at h1; omega
theorem none_alike {es : List En} {t : Int} {p : Nat} (h : PosOf es t p) (hs : Srt es) (hf : foundAt es t p = false) : ∀ e ∈ es,cmpI t e.1 ≠ 0 := by
 intro e he hc
 obtain ⟨q,hq,rfl⟩ := Yag he
 rcases Yan q p with h1 | h1
 ·have := h.lo q hq h1; rw [Zacf] at hc; omega
 ·have := h.gt hs hf hq h1; omega
def CmpF (D : Dp) (H : Hd) (fv : HV) (t : Int) : Prop := ∀ (e : En) (S : HS),∃ S',D H fv [.agg (enRow e),.int .i64 t] S = some (.int .i64 (cmpI e.1 t),S') ∧ Fr S.next S S'
theorem cmpF {k n : Nat} {H : Hd} {t : Int} (hk : 2000 ≤ k) : CmpF (disp k (n + 1)) H (HV.fn (.func 97) [] []) t := by
 intro e S
 have hcell : (S.new (.cells 3 [[.int .i64 e.1,.bool e.2.1,.bool e.2.2]] true)).heap S.next = .cells 3 [[.int .i64 e.1,.bool e.2.1,.bool e.2.2]] true := Zxv _ _
 refine ⟨S.new (.cells 3 [[.int .i64 e.1,.bool e.2.1,.bool e.2.2]] true),?_,Fr.new (Yaa _) _⟩
 have e' : Zabi (disp k n) H k ([] ++ [HV.agg (enRow e),.int .i64 t] ++ []) S = some (.int .i64 (cmpI e.1 t),S.new (.cells 3 [[.int .i64 e.1,.bool e.2.1,.bool e.2.2]] true)) := by
  rw [Zabi]
  simp only [Yay,Ya7,Zaa6,enRow,dA3,dB,dI,obs,if_true]
  rw [Y104.f,letv,Zx8 (Zxu hcell) rfl rfl,obs,cmp_spec,obs]
  rfl
 rw [Zzq]
 repeat rw [if_neg (by decide)]
 rw [if_pos rfl]
 exact e'
theorem en_rows {S : HS} {s : Sl} {xs : List En} (h : S.rows s 3 = some (xs.map enRow)) {i : Nat} (hi : i < xs.length) : ∃ ad,S.idx s (i : Int) 3 = some ad ∧ S.ldI .i64 (HA.fld ad 0) = some xs[i].1 ∧ S.ldB (HA.fld ad 1) = some xs[i].2.1 ∧ S.ldB (HA.fld ad 2) = some xs[i].2.2 := by
 obtain ⟨ad,h1,h2,h3⟩ := Zabt h (i := i) (by simpa using hi)
 rw [Yaj] at h3
 exact ⟨ad,h1,Zx8 h3 h2 rfl,Zaaf h3 h2 rfl,Zaaf h3 h2 rfl⟩
theorem search_loop {D : Dp} {H : Hd} {k : Nat} {s : Sl} {t : Int} {fv : HV} {es : List En} (hc : CmpF D H fv t) (hs : Srt es) (hle : es.length ≤ 100000) :
  ∀ (n i j : Nat) (S : HS),j - i < n → i ≤ j → j ≤ es.length → Rd S.next S 3 s (es.map enRow) → (∀ q (hq : q < es.length),q < i → cmpI es[q].1 t < 0) → (∀ q (hq : q < es.length),j ≤ q → ¬ cmpI es[q].1 t < 0) →
  ∃ (p : Nat) (S' : HS),Y48.L0 D H k n s t fv (es.length : Int) (i : Int) (j : Int) S = some (((p : Int),foundAt es t p),S') ∧ PosOf es t p ∧ Fr S.next S S' := by
 intro n
 induction n with
 | zero => intro i j S h; omega
 | succ n ih =>
  intro i j S hf hij hj hrd hlo hhi
  unfold Y48.L0
  by_cases hlt : i < j
  ·rw [if_pos (by omega),Zagk (by omega)]
   have hm : (i + j) / 2 < es.length := by omega
   obtain ⟨ad,a1,a2,a3,a4⟩ := en_rows hrd.rows hm
   obtain ⟨S1,e1,f1⟩ := hc es[(i + j) / 2] S
   have hrd1 : Rd S1.next S1 3 s (es.map enRow) := (hrd.frame f1 (Yaa _)).mono f1.le
   have e1' : D H fv [HV.agg [HV.int .i64 es[(i + j) / 2].1,HV.bool es[(i + j) / 2].2.1,HV.bool es[(i + j) / 2].2.2],HV.int .i64 t] S = some (.int .i64 (cmpI es[(i + j) / 2].1 t),S1) := e1
   rw [a1,obs,a2,obs,a3,obs,a4,obs,e1',obs]
   simp only [dI,if_true,obs]
   by_cases hc0 : cmpI es[(i + j) / 2].1 t < 0
   ·rw [if_pos hc0,Zx2 (by omega) (by omega),show ((((i + j) / 2 : Nat) : Int) + 1) = (((i + j) / 2 + 1 : Nat) : Int) by simp]
    obtain ⟨p,S2,e2,p2,f2⟩ := ih ((i + j) / 2 + 1) j S1 (by omega) (by omega) hj hrd1 (fun q hq hqi => by
     rcases Yan q ((i + j) / 2) with h | h
     ·exact Zz4 (hs.lt hq hm h) hc0
     ·obtain rfl : q = (i + j) / 2 := by omega
      exact hc0) hhi
    exact ⟨p,S2,e2,p2,f1.trans (f2.mono f1.le)⟩
   ·rw [if_neg hc0]
    obtain ⟨p,S2,e2,p2,f2⟩ := ih i ((i + j) / 2) S1 (by omega) (by omega) (by omega) hrd1 hlo (fun q hq hqi => by
     rcases Yan ((i + j) / 2) q with h | h
     ·intro hcc
      exact hc0 (Zz4 (hs.lt hm hq h) hcc)
     ·obtain rfl : q = (i + j) / 2 := by omega
      exact hc0)
    exact ⟨p,S2,e2,p2,f1.trans (f2.mono f1.le)⟩
  ·obtain rfl : i = j := by omega
   rw [if_neg (by omega)]
   have hp : PosOf es t i := ⟨hj,hlo,hhi⟩
   by_cases hend : i < es.length
   ·obtain ⟨ad,a1,a2,a3,a4⟩ := en_rows hrd.rows hend
    obtain ⟨S1,e1,f1⟩ := hc es[i] S
    have e1' : D H fv [HV.agg [HV.int .i64 es[i].1,HV.bool es[i].2.1,HV.bool es[i].2.2],HV.int .i64 t] S = some (.int .i64 (cmpI es[i].1 t),S1) := e1
    rw [if_pos (by omega),a1,obs,a2,obs,a3,obs,a4,obs,e1',obs]
    simp only [dI,if_true,obs,Y48.J1]
    refine ⟨i,S1,?_,hp,f1⟩
    simp [foundAt,List.getElem?_eq_getElem hend]
   ·rw [if_neg (by omega),Y48.J1]
    refine ⟨i,S,?_,hp,Fr.refl _ _⟩
    simp [foundAt,List.getElem?_eq_none (show es.length ≤ i by omega)]
theorem found_lt {es : List En} {t : Int} {i : Nat} (h : foundAt es t i = true) : i < es.length := by
 unfold foundAt at h
 cases he : es[i]? with
 | none => rw [he] at h; cases h
 | some e => exact (List.getElem?_eq_some_iff.1 he).1
end MK
theorem MK.found_iff {es : List MK.En} {t : Int} {i : Nat} (h : MK.PosOf es t i) (hs : MK.Srt es) : MK.foundAt es t i = true ↔ t ∈ es.map (·.1) := by
 constructor
 ·intro hf
  have hi := MK.found_lt hf
  simp only [MK.foundAt,List.getElem?_eq_getElem hi,decide_eq_true_eq] at hf
  rw [MK.cmpI_zero] at hf
  exact Ya0.2 ⟨_,Yae hi,hf⟩
 ·intro hm
  obtain ⟨e,he,rfl⟩ := Ya0.1 hm
  cases hf : MK.foundAt es e.1 i with
  | true => rfl
  | false => exact absurd ((MK.cmpI_zero _ _).2 rfl) (MK.none_alike h hs hf e he)
theorem MK.found_at {es : List MK.En} {t : Int} {i : Nat} (hf : MK.foundAt es t i = true) : ∃ hi : i < es.length,(es[i]'hi).1 = t := by
 have hi := MK.found_lt hf
 simp only [MK.foundAt,List.getElem?_eq_getElem hi,decide_eq_true_eq] at hf
 exact ⟨hi,(MK.cmpI_zero _ _).1 hf⟩
structure Rm where
 p : Nat
 s : Sl
 name : List UInt8
 mb : Int
 ms : List MK.En
 q : Nat
 qs : Sl
def Rm.ids (e : Rm) : List Int := e.ms.map (·.1)
def Rm.row (e : Rm) : List HV := [.str e.name,.int .i64 e.mb,e.s.hv,.str [],.int .i64 20,.str [],.int .i64 0,Sl.nil.hv,.ptr (some (HA.cell0 e.q))]
def OwnR (e : Rm) (id : Nat) : Prop := Own e.p e.s id ∨ Own e.q e.qs id
structure RI (e : Rm) (S : HS) : Prop where
 cell : S.heap e.p = .cells 9 [e.row] true
 ov : OV S 3 e.s (e.ms.map MK.enRow)
 ne : ∀ q,e.s.a = some q → q.1 ≠ e.p
 hi : e.p < S.next
 srt : MK.Srt e.ms
 cnt : e.ms.length ≤ 900
 inv : KI.SI e.q e.qs [] S
 dis : ∀ id,Own e.p e.s id → ¬ Own e.q e.qs id
section
variable {k n : Nat} {H : Hd} {e : Rm} {S S' : HS}
theorem RI.lt (h : RI e S) {id : Nat} (ho : OwnR e id) : id < S.next := by
 rcases ho with (rfl | ⟨q,h1,rfl⟩) | ho
 ·exact h.hi
 ·exact h.ov.lt h1
 ·exact h.inv.lt ho
theorem RI.keep (h : RI e S) (hk : ∀ id,OwnR e id → S'.heap id = S.heap id) (hn : S.next ≤ S'.next) : RI e S' :=
 ⟨(hk _ (.inl (.inl rfl))).trans h.cell,h.ov.keep (fun q hq => hk q.1 (.inl (.inr ⟨q,hq,rfl⟩))) hn,h.ne,Yai h.hi hn,h.srt,h.cnt,h.inv.keep (fun id g => hk id (.inr g)) hn,h.dis⟩
theorem RI.fr (h : RI e S) (hf : Fr S.next S S') : RI e S' := h.keep (fun id ho => hf.eq id (h.lt ho)) hf.le
theorem RI.slen (h : RI e S) : (e.s.len : Int) = e.ms.length := by have := h.ov.len; simp at this; omega
theorem RI.ldS (h : RI e S) : S.ldSl (HA.fld (HA.cell0 e.p) 2) = some e.s := Zy2 (Zxu h.cell) rfl rfl
theorem room_new (hk : 2000 ≤ k) (name : List UInt8) (mb : Int) : ∃ e S',Y81.f k name mb S = some (some (HA.cell0 e.p),S') ∧ RI e S' ∧ e.name = name ∧ e.ms = [] ∧ (∀ id,OwnR e id → S.next ≤ id) ∧ Fr S.next S S' := by
 obtain ⟨s',xs',S1,e1,h1,f1,g1,g2,g3⟩ := KI.of_spec (k := k) (sl := Sl.nil) (ls := []) (S := S) hk (by exact ⟨rfl,fun q hq => by cases hq⟩) (by simp)
 have hx : xs' = [] := Yax.1 (by simpa using g3)
 subst hx
 have l1 := f1.le
 have hlt := h1.hi
 refine ⟨⟨S1.next,Sl.nil,name,mb,[],S.next,s'⟩,_,by rw [Y81.f,e1,obs,letv]; rfl,⟨Zxv _ _,.inl ⟨rfl,rfl,rfl⟩,fun q hq => (by cases hq),Yaw _,List.Pairwise.nil,by simp,h1.fr (Fr.new (Yaa _) _),?_⟩,rfl,rfl,?_,f1.trans (Fr.new l1 _)⟩
 ·rintro id (rfl | ⟨q,hq,_⟩) ho
  ·exact absurd (h1.lt ho) (Nat.lt_irrefl _)
  ·cases hq
 ·rintro id ((rfl | ⟨q,hq,_⟩) | ho)
  ·exact l1
  ·cases hq
  ·exact g1 id ho
theorem Zafx (hk : 2000 ≤ k) (h : RI e S) (id : Int) : ∃ (i : Nat) (S' : HS),Y18.f (disp k (n + 1)) H k (some (HA.cell0 e.p)) id S = some (((i : Int),MK.foundAt e.ms id i),S') ∧ MK.PosOf e.ms id i ∧ Fr S.next S S' := by
 have hcnt := h.cnt
 obtain ⟨i,S',e1,h1,h2⟩ := MK.search_loop (k := k) (fv := HV.fn (.func 97) [] []) (MK.cmpF (n := n) (H := H) (t := id) (show 2000 ≤ k by omega)) h.srt (by omega) k 0 e.ms.length S (by omega) (Yak _) (Yaa _) h.ov.rd (fun q _ hq => by omega) (fun q hq hq2 => by omega)
 refine ⟨i,S',?_,h1,h2⟩
 rw [Y18.f,if_neg (by simp),obs,h.ldS,obs,Y48.f,h.slen]
 rw [show ((0 : Nat) : Int) = 0 from rfl] at e1
 rw [e1,obs]
theorem room_len (h : RI e S) : Y79.f (some (HA.cell0 e.p)) S = some ((e.ms.length : Int),S) := by
 rw [Y79.f,if_neg (by simp),obs,h.ldS,obs,h.slen]
theorem Zagn {s' : Sl} (h : S.heap e.p = .cells 9 [e.row] true) : S.sets (HA.fld (HA.cell0 e.p) 2) [s'.hv] = some (S.put e.p (.cells 9 [({ e with s := s' } : Rm).row] true)) := (Zyo h rfl (by simp [Rm.row])).trans rfl
theorem room_add (hk : 2000 ≤ k) (h : RI e S) (id : Int) (op : Bool) (hnew : id ∉ e.ids) (hc : e.ms.length < 900) :
  ∃ e' S',Y58.f (disp k (n + 1)) H k (some (HA.cell0 e.p)) id op S = some ((),S') ∧ RI e' S' ∧ e'.p = e.p ∧ e'.name = e.name ∧ (∃ i,e'.ms = e.ms.take i ++ [(id,op,false)] ++ e.ms.drop i) ∧ Chg (OwnR e) (OwnR e') S S' := by
 obtain ⟨i,S1,e1,hp,f1⟩ := Zafx (n := n) (H := H) hk h id
 have h1 := h.fr f1
 have hf : MK.foundAt e.ms id i = false := by
  cases hf : MK.foundAt e.ms id i with
  | false => rfl
  | true => exact absurd ((MK.found_iff hp h.srt).1 hf) hnew
 obtain ⟨s',S2,a1,a2,a3,a4,a5⟩ := Zagi (row := [.int .i64 id,.bool op,.bool false]) h1.ov (i := i) (by simpa using hp.le) (by simp; omega)
 have hcell : S2.heap e.p = .cells 9 [e.row] true := by rw [a4 e.p h1.hi h1.ne]; exact h1.cell
 have hset := Zagn (s' := s') hcell
 generalize hS3 : S2.put e.p (.cells 9 [({ e with s := s' } : Rm).row] true) = S3 at hset
 have n3 : S3.next = S2.next := by rw [← hS3]; rfl
 have hne' : ∀ q,s'.a = some q → q.1 ≠ e.p := fun q hq => by have := a5 q hq; have := h1.hi; omega
 have hcell3 : S3.heap e.p = .cells 9 [({ e with s := s' } : Rm).row] true := by rw [← hS3]; exact Zxs _ _ _
 have eq3 : ∀ x,x < S1.next → ¬ Own e.p e.s x → S3.heap x = S1.heap x := fun x hx hn => by
  rw [← hS3,Zxd _ (fun g => hn (.inl g))]
  exact a4 x hx (fun q hq g => hn (.inr ⟨q,hq,g⟩))
 have inv3 : KI.SI e.q e.qs [] S3 := h1.inv.keep (fun x g => eq3 x (h1.inv.lt g) (fun g' => h.dis x g' g)) (by omega)
 have hld8 : S3.ldP (HA.fld (HA.cell0 e.p) 8) = some (some (HA.cell0 e.q)) := Zadn (Zxu hcell3) rfl rfl
 have fl : Fr S3.next S3 (S3.lit [[.int .i64 id]] 1).2 := Zyt _ (Yaa _)
 have hlr : (S3.lit [[.int .i64 id]] 1).2.rows (S3.lit [[.int .i64 id]] 1).1 1 = some (([id] : List KI.Ky).map KI.row1) := (Vec.lit (n := 0) (z := 1) (S := S3) _ (Yak _)).rows
 obtain ⟨qs',xs',S5,r1,r2,r3,r4,r5⟩ := KI.remove_spec (ls := [id]) hk (inv3.fr fl) hlr (fun q hq => by
  have : q = (S3.next,0) := by simp [HS.lit] at hq; exact hq.symm
  subst this
  exact ⟨Yaw _,fun ho => by have := inv3.lt ho; simp at this⟩) (by simp)
 have hx : xs' = [] := Yax.1 (by simpa using r5)
 subst hx
 have l5 := r3.le
 have l4 := fl.le
 refine ⟨{ e with s := s',ms := e.ms.take i ++ [(id,op,false)] ++ e.ms.drop i,qs := qs' },S5,?_,?_,rfl,rfl,⟨i,rfl⟩,?_⟩
 ·rw [Y58.f,e1,obs,if_neg (by simp),hf,Y58.J0,if_neg (by simp),obs,h1.ldS,obs,letv,Y96.f,a1,obs,obs,hset,obs,obs,hld8,obs,letv,r1,obs]
 ·have hown : ∀ x,Own e.p s' x → x < S3.next ∧ ¬ Own e.q e.qs x := by
   rintro x (rfl | ⟨q,hq,rfl⟩)
   ·exact ⟨by have := h1.hi; omega,h.dis _ (.inl rfl)⟩
   ·exact ⟨by have := a2.lt hq; omega,fun g => by have := h1.inv.lt g; have := a5 q hq; omega⟩
  have eq5 : ∀ x,Own e.p s' x → S5.heap x = S3.heap x := fun x hx => by
   obtain ⟨g1,g2⟩ := hown x hx
   rw [r3.eq x (by omega) g2,fl.eq x g1]
  refine ⟨(eq5 _ (.inl rfl)).trans hcell3,?_,hne',by have := h1.hi; show e.p < S5.next; omega,MK.ins_srt hp h.srt hf _,?_,r2,?_⟩
  ·have hmap : (e.ms.take i ++ [(id,op,false)] ++ e.ms.drop i).map MK.enRow = (e.ms.map MK.enRow).take i ++ [[.int .i64 id,.bool op,.bool false]] ++ (e.ms.map MK.enRow).drop i := by
    simp only [Yau,List.map_take,List.map_drop,List.map_cons,List.map_nil,MK.enRow]
   show OV S5 3 s' ((e.ms.take i ++ [(id,op,false)] ++ e.ms.drop i).map MK.enRow)
   rw [hmap]
   refine a2.keep (fun q hq => ?_) (by omega)
   rw [eq5 q.1 (.inr ⟨q,hq,rfl⟩),← hS3]
   exact Zxd _ (hne' q hq)
  ·simp only [Ya3,Yar,Ya1,List.length_singleton]; omega
  ·intro x hx ho
   obtain ⟨g1,g2⟩ := hown x hx
   rcases r3.own x ho with g | g
   ·exact g2 g
   ·omega
 ·refine ⟨by have := f1.le; omega,fun x hx ho => ?_,fun x ho => ?_⟩
  ·have l1 := f1.le
   rw [r3.eq x (by omega) (fun g => ho (.inr g)),fl.eq x (by omega),eq3 x (by omega) (fun g => ho (.inl g)),f1.eq x hx]
  ·have l1 := f1.le
   rcases ho with (rfl | ⟨q,hq,rfl⟩) | ho
   ·exact .inl (.inl (.inl rfl))
   ·exact .inr (by have := a5 q hq; omega)
   ·rcases r3.own x ho with g | g
    ·exact .inl (.inr g)
    ·exact .inr (by omega)
theorem Zai4 (hk : 2000 ≤ k) (h : RI e S) (id : Int) (hin : id ∈ e.ids) :
  ∃ e' S',Y60.f (disp k (n + 1)) H k (some (HA.cell0 e.p)) id S = some (true,S') ∧ RI e' S' ∧ e'.p = e.p ∧ e'.name = e.name ∧ (∃ i,MK.PosOf e.ms id i ∧ MK.foundAt e.ms id i = true ∧ e'.ms = e.ms.eraseIdx i) ∧ Chg (OwnR e) (OwnR e') S S' := by
 obtain ⟨i,S1,e1,hp,f1⟩ := Zafx (n := n) (H := H) hk h id
 have h1 := h.fr f1
 have hf : MK.foundAt e.ms id i = true := (MK.found_iff hp h.srt).2 hin
 have hi := MK.found_lt hf
 have hcnt := h.cnt
 obtain ⟨s',S2,a1,a2,a3,a4,a5⟩ := Zagj h1.ov (i := i) (by simpa using hi) (by simp; omega)
 have hcell : S2.heap e.p = .cells 9 [e.row] true := by rw [a4 e.p h1.hi h1.ne]; exact h1.cell
 have hset := Zagn (s' := s') hcell
 generalize hS3 : S2.put e.p (.cells 9 [({ e with s := s' } : Rm).row] true) = S3 at hset
 have n3 : S3.next = S2.next := by rw [← hS3]; rfl
 have hne' : ∀ q,s'.a = some q → q.1 ≠ e.p := fun q hq => by have := a5 q hq; have := h1.hi; omega
 have eq3 : ∀ x,x < S1.next → ¬ Own e.p e.s x → S3.heap x = S1.heap x := fun x hx hn => by
  rw [← hS3,Zxd _ (fun g => hn (.inl g))]
  exact a4 x hx (fun q hq g => hn (.inr ⟨q,hq,g⟩))
 have hi1 : w64 ((i : Int) + 1) = ((i + 1 : Nat) : Int) := by rw [Zx2 (by omega) (by omega)]; simp
 refine ⟨{ e with s := s',ms := e.ms.eraseIdx i },S3,?_,⟨by rw [← hS3]; exact Zxs _ _ _,?_,hne',by have := h1.hi; show e.p < S3.next; omega,MK.erase_srt h.srt i,by show (e.ms.eraseIdx i).length ≤ 900; rw [List.length_eraseIdx,if_pos hi]; omega,h1.inv.keep (fun x g => eq3 x (h1.inv.lt g) (fun g' => h.dis x g' g)) (by omega),?_⟩,rfl,rfl,⟨i,hp,hf,rfl⟩,?_⟩
 ·rw [Y60.f,e1,obs,if_pos hf,obs,h1.ldS,obs]
  simp only
  rw [hi1,Y94.f,a1,obs,obs,hset,obs,Y60.J0,hf]
 ·show OV S3 3 s' ((e.ms.eraseIdx i).map MK.enRow)
  rw [Go.ChangeMaps.map_eraseIdx]
  exact a2.keep (fun q hq => by rw [← hS3]; exact Zxd _ (hne' q hq)) (by omega)
 ·rintro x (rfl | ⟨q,hq,rfl⟩) ho
  ·exact h.dis _ (.inl rfl) ho
  ·have := h1.inv.lt ho; have := a5 q hq; omega
 ·have l1 := f1.le
  refine ⟨by omega,fun x hx ho => by rw [eq3 x (by omega) (fun g => ho (.inl g)),f1.eq x hx],?_⟩
  rintro x ((rfl | ⟨q,hq,rfl⟩) | ho)
  ·exact .inl (.inl (.inl rfl))
  ·exact .inr (by have := a5 q hq; omega)
  ·exact .inl (.inr ho)
end
def ent (e : Rm) : BK.En := (e.name,some (HA.cell0 e.p))
def Rm.key (e : Rm) : List UInt8 := e.name.map low
structure W where
 w : Nat
 bk : Nat
 r : Nat
 m1 : Nat
 m2 : Nat
 mR : Int
 mJ : Int
 mB : Int
def W.row (x : W) : List HV := [.str [],.str [],.str [],.str [],.int .i64 0,.int .i64 0,.int .i64 x.mJ,.int .i64 x.mR,.int .i64 x.mB,.int .i64 0,.int .i64 0,.int .i64 0,.int .i64 0,.int .i64 0,.int .i64 0,.ptr (some (HA.cell0 x.bk)),.ptr (some (HA.cell0 x.r))]
structure T where
 bs : Sl
 n : Nat
 E1 : List MA.En
 E2 : List MB.En
 R : List Rm
 L : List Pr
def OB (x : W) (t : T) (id : Nat) : Prop := id = x.w ∨ Own x.bk t.bs id ∨ OR x.r x.m1 x.m2 t.E1 t.E2 id
def OA (x : W) (t : T) (id : Nat) : Prop := OB x t id ∨ ∃ e ∈ t.R,OwnR e id
structure RsC (x : W) (t : T) (S : HS) : Prop where
 cell : S.heap x.w = .cells 17 [x.row] true
 hi : x.w < S.next
 book : BK.BI x.bk t.bs x.mR (t.R.map ent) S
 rel : RelI x.r x.m1 x.m2 t.n x.mJ t.E1 t.E2 t.L S
 rooms : ∀ e ∈ t.R,RI e S
 dwb : ¬ Own x.bk t.bs x.w
 dwr : ¬ OR x.r x.m1 x.m2 t.E1 t.E2 x.w
 dbr : ∀ id,Own x.bk t.bs id → ¬ OR x.r x.m1 x.m2 t.E1 t.E2 id
 pw : t.R.Pairwise fun a b => ∀ id,OwnR a id → ¬ OwnR b id
 dR : ∀ e ∈ t.R,∀ id,OwnR e id → ¬ OB x t id
structure RsI (x : W) (t : T) (S : HS) : Prop extends RsC x t S where
 link : ∀ a b,(a,b) ∈ t.L ↔ ∃ e ∈ t.R,e.key = b ∧ a ∈ e.ids
 ne : ∀ e ∈ t.R,e.ms ≠ []
 cm : ∀ e ∈ t.R,e.ms.length ≤ t.n
 cR : t.R.length ≤ t.n
 mR0 : 0 ≤ x.mR
 mR1 : x.mR ≤ 1000
 mJ0 : 0 ≤ x.mJ
 mJ1 : x.mJ ≤ 1000
 cntR : (t.R.length : Int) ≤ x.mR
 cntJ : ∀ a xs,KS.Srt xs → (∀ v,v ∈ xs ↔ (a,v) ∈ t.L) → (xs.length : Int) ≤ x.mJ
section
variable {x : W} {t : T} {S S' : HS} {n : Nat} {H : Hd}
theorem RsC.ltO (h : RsC x t S) {id : Nat} (ho : OA x t id) : id < S.next := by
 rcases ho with (rfl | g | g) | ⟨e,he,g⟩
 ·exact h.hi
 ·exact h.book.lt g
 ·exact h.rel.ltO g
 ·exact (h.rooms e he).lt g
theorem RsC.keep (h : RsC x t S) (hk : ∀ id,OA x t id → S'.heap id = S.heap id) (hn : S.next ≤ S'.next) : RsC x t S' :=
 { h with
  cell := (hk _ (.inl (.inl rfl))).trans h.cell
  hi := Yai h.hi hn
  book := h.book.keep (fun id g => hk id (.inl (.inr (.inl g)))) hn
  rel := h.rel.keep (fun id g => hk id (.inl (.inr (.inr g)))) hn
  rooms := fun e he => (h.rooms e he).keep (fun id g => hk id (.inr ⟨e,he,g⟩)) hn }
theorem RsI.keep (h : RsI x t S) (hk : ∀ id,OA x t id → S'.heap id = S.heap id) (hn : S.next ≤ S'.next) : RsI x t S' := { h with toRsC := h.toRsC.keep hk hn }
theorem RsI.fr (h : RsI x t S) (hf : Fr S.next S S') : RsI x t S' := h.keep (fun id ho => hf.eq id (h.ltO ho)) hf.le
theorem RsC.fr (h : RsC x t S) (hf : Fr S.next S S') : RsC x t S' := h.keep (fun id ho => hf.eq id (h.ltO ho)) hf.le
theorem RsC.ldb (h : RsC x t S) : S.ldP (HA.fld (HA.cell0 x.w) 15) = some (some (HA.cell0 x.bk)) := Zadn (Zxu h.cell) rfl rfl
theorem RsC.ldr (h : RsC x t S) : S.ldP (HA.fld (HA.cell0 x.w) 16) = some (some (HA.cell0 x.r)) := Zadn (Zxu h.cell) rfl rfl
theorem RsC.ldmR (h : RsC x t S) : S.ldI .i64 (HA.fld (HA.fld (HA.cell0 x.w) 0) 7) = some x.mR := Zx8 (j := 7) (ad := HA.cell0 x.w) (Zxu h.cell) rfl rfl
theorem RsC.ldmB (h : RsC x t S) : S.ldI .i64 (HA.fld (HA.fld (HA.cell0 x.w) 0) 8) = some x.mB := Zx8 (j := 8) (ad := HA.cell0 x.w) (Zxu h.cell) rfl rfl
theorem RsI.key_uniq (h : RsI x t S) {a b : Rm} (ha : a ∈ t.R) (hb : b ∈ t.R) (hk : a.key = b.key) : a = b := by
 have hs : (t.R.map ent).Pairwise fun a b => cmpL a.1 b.1 < 0 := h.book.srt
 rw [List.pairwise_map] at hs
 obtain ⟨i,hi,rfl⟩ := Yag ha
 obtain ⟨j,hj,rfl⟩ := Yag hb
 have h0 : cmpL t.R[i].name t.R[j].name = 0 := (Zzp _ _).2 hk
 have h0' : cmpL t.R[j].name t.R[i].name = 0 := (Zzp _ _).2 hk.symm
 rcases Nat.lt_trichotomy i j with g | g | g
 ·have : cmpL t.R[i].name t.R[j].name < 0 := Yap.1 hs i j hi hj g
  omega
 ·subst g; rfl
 ·have : cmpL t.R[j].name t.R[i].name < 0 := Yap.1 hs j i hj hi g
  omega
inductive Fnd (R : List Rm) (name : List UInt8) : Option Rm → Prop
 | some {e} (he : e ∈ R) (hk : e.key = name.map low) : Fnd R name (some e)
 | none (h : ∀ e ∈ R,e.key ≠ name.map low) : Fnd R name none
def Zahk (o : Option Rm) : Option HA := o.map fun e => HA.cell0 e.p
theorem Zacg {R : List Rm} {name : List UInt8} {i : Nat} (hp : BK.PosOf (R.map ent) name i) (hs : BK.Srt (R.map ent)) :
  ∃ o,Fnd R name o ∧ BK.foundAt (R.map ent) name i = o.isSome ∧ (BK.foundAt (R.map ent) name i = true → ∃ hi : i < R.length,o = some (R[i]'hi)) := by
 cases hf : BK.foundAt (R.map ent) name i with
 | true =>
  have hi : i < R.length := by simpa using BK.found_lt hf
  have h0 : cmpL (R[i]'hi).name name = 0 := by
   simp only [BK.foundAt,List.getElem?_eq_getElem (show i < (R.map ent).length by simpa using hi),decide_eq_true_eq] at hf
   simpa [ent] using hf
  exact ⟨some R[i],.some (Yae hi) ((Zzp _ _).1 h0),rfl,fun _ => ⟨hi,rfl⟩⟩
 | false =>
  refine ⟨none,.none fun e he hk => ?_,rfl,fun g => by cases g⟩
  exact BK.none_alike hp hs hf (ent e) (Ya0.2 ⟨e,he,rfl⟩) ((Zzp _ _).2 hk.symm)
theorem Fnd.uniq (h : RsI x t S) {name : List UInt8} {o o' : Option Rm} (h1 : Fnd t.R name o) (h2 : Fnd t.R name o') : o = o' := by
 cases h1 with
 | some he hk =>
  cases h2 with
  | some he' hk' => rw [h.key_uniq he he' (hk.trans hk'.symm)]
  | none g => exact absurd hk (g _ he)
 | none g =>
  cases h2 with
  | some he' hk' => exact absurd hk' (g _ he')
  | none _ => rfl
theorem Zady (h : RsI x t S) (name : List UInt8) : ∃ o S',Fnd t.R name o ∧ Y15.f (disp 2000 (n + 1)) H 2000 (some (HA.cell0 x.bk)) name S = some ((Zahk o,o.isSome),S') ∧ Fr S.next S S' := by
 obtain ⟨i,S',hp,e1,f1⟩ := BK.get_spec (n := n) (H := H) (k := 2000) (Yaa _) h.book name
 obtain ⟨o,ho,g1,g2⟩ := Zacg hp h.book.srt
 refine ⟨o,S',ho,?_,f1⟩
 rw [e1,g1]
 cases hf : o with
 | none => rfl
 | some e =>
  have : BK.foundAt (t.R.map ent) name i = true := by rw [g1,hf]; rfl
  obtain ⟨hi,g3⟩ := g2 this
  rw [hf] at g3
  cases g3
  simp [hi,ent,Zahk]
theorem Zai5 (h : RsI x t S) (name : List UInt8) : ∃ o S',Fnd t.R name o ∧ Y75.f (disp 2000 (n + 1)) H 2000 (some (HA.cell0 x.w)) name S = some ((Zahk o,o.isSome),S') ∧ Fr S.next S S' := by
 obtain ⟨o,S',ho,e1,f1⟩ := Zady (n := n) (H := H) h name
 refine ⟨o,S',ho,?_,f1⟩
 rw [Y75.f,if_neg (by simp),obs,h.ldb,obs,e1,obs]
end
end Go.Proofs.YtbmfomkfmpppiaaGreat.X
