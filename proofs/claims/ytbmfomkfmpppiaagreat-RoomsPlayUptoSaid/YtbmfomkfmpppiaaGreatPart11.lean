/- Functions of the program, each as a Lean function over the layer HL: a call answers what the Lean function answers, where it answers. Functions of the program, each as a Lean function over the layer HL: a call answers what the Lean function answers, where it answers. The laws' own functions; awake, which has no argument, is run by the kernel once, in an empty memory: that is its contract in every memory. Sets, what is common to all. Sets of int, plain. Sets of string, plain. Sets of int, what is told, plain. Sets of string, what is told, plain. Maps of sets, keys of int, things of string, plain. Maps of sets, keys of string, things of int, plain. -/
import Derived.Test.YtbmfomkfmpppiaaGreatProg
import Derived.Test.YtbmfomkfmpppiaaGreatPart10
namespace Go.Proofs.YtbmfomkfmpppiaaGreat.X
open Go.Proofs.YtbmfomkfmpppiaaGreat.HL
set_option linter.unusedVariables false
set_option linter.unusedSimpArgs false
set_option maxRecDepth 20000
set_option maxHeartbeats 4000000
noncomputable section
variable {b : Nat} {w : World} {e : Bt}
variable {S : HS} {D : Dp} {H : Hd} {k : Nat} {Ga j q m F o N Gh i a G B M O K A C E I J L Q U V Z c d g r Kd Ke Kf Kg Kh Ki Kj Kk Kl Km Kn Ko Kp Kq Kr Ks Kt Ku Kv Kw Kx Ky Kz Ma Mb Mc Md Me Mf Mg Mh Mi Mj Mk Ml Mm Mn Mo Mp Mq Mr Ms Mt Mu Mv Mw Mx My Mz Na Nb Nc Nd Ne Nf Ng Nh Ni Nj Nk Nl Nm Nn No Np Nq Nr Ns Nt Nu Nv Nw Nx Ny Nz : HV}
namespace Y93
theorem at_ : FnAt Tryz.prog 51 Tryz.f51 := ⟨Tryz.func51,by kernel_rfl⟩
def d0 := (Tryz.f51.body).getD .skip
def r1 := kT d0
def r3 := kT (kB d0)
def c0 : Code := .seq (.region 0 r1 false) (.seq (.region 1 r3 false) .ret)
theorem body : Tryz.f51.body = some c0 := by kernel_rfl
def f (x0 : (List UInt8)) (x1 : Int) (S : HS) : Option ((HP) × HS) :=
 (letv (HS.new S (.cells 9 [[(.str x0),(.int .i64 x1),(Sl.hv Sl.nil),(.str []),(.str ([110,116] : List UInt8)),(.str []),(.int .i64 0),(Sl.hv Sl.nil),(Sl.hv Sl.nil)]] true)) fun p1 =>
 some ((some (HA.cell0 S.next)),p1))
theorem snd {x0 : (List UInt8)} {x1 : Int}  {p : (HP) × HS} (h : f x0 x1 S = some p) : HC b w e 51 [(.str x0),(.int .i64 x1)] S (RR (.ptr p.1) p.2) := by
 unfold f at h
 refine HCall.of_run at_.at_ body ?_
 show HR b w e 51 none [.code c0] ⟨[(.str x0),(.int .i64 x1),z,z,z,z,z,z,z],[]⟩ S _
 refine qT rfl rfl rfl (qS 4 rfl (Zxa · (.const fun _ => .ptrNil)) (rE ?_))
 dsimp only [w0,w1,w2,w3]
 obtain ⟨p1,hp1,h⟩ := leto h
 refine qT rfl rfl rfl (uM 5 rfl rfl (uM 6 rfl rfl (qS 7 rfl (Zy1 (is := [0,1,4]) (xs := [(.tmp 5),(.tmp 6),(.const (.string ⟨#[110,116]⟩))]) (r := [(.str x0),(.int .i64 x1),(Sl.hv Sl.nil),(.str []),(.str ([110,116] : List UInt8)),(.str []),(.int .i64 0),(Sl.hv Sl.nil),(Sl.hv Sl.nil)]) st89 · rfl rfl (.cons (.tmp rfl) (.cons (.tmp rfl) (.cons (.str _) Evs.nil))) rfl) (qS 8 rfl (Zyf · (.tmp rfl) (Yav _) rfl hp1) ?_))))
 try dsimp only [w0,w1,w2,w3]
 refine uA 4 rfl rfl (rE ?_)
 cases h
 exact Zxl rfl at_.at_ rfl (res1 rfl rfl) ⟨rfl,rfl⟩
end Y93
namespace Y64
theorem at_ : FnAt Tryz.prog 80 Tryz.f80 := ⟨Tryz.func80,by kernel_rfl⟩
def d0 := (Tryz.f80.body).getD .skip
def r1 := kT d0
def r3 := kT (kB d0)
def d5 := kY (kB d0)
def r6 := kT d5
def d9 := kX (kB d5)
def r11 := kT (kA d9)
def r18 := kT (kX (kB d9))
def r20 := kT (kZ (kY d9))
def r22 := kR (kW d9)
def r24 := kT (kW (kB d0))
def c23 : Code := .seq (.region 7 r24 false) .ret
def c22 : Code := .region 4 r22 false
def c9 : Code := .seq (.seq (.region 3 r11 false) (.cond (.tmp 10) .skip (.exit 0))) (.seq (.block 1 (.seq (.region 5 r18 false) (.cond (.tmp 18) (.region 6 r20 false) .skip))) c22)
def c0 : Code := .seq (.region 0 r1 false) (.seq (.region 1 r3 false) (.seq (.seq (.region 2 r6 false) (.block 0 (.loop c9))) c23))
theorem body : Tryz.f80.body = some c0 := by kernel_rfl
variable {y0 y5 : Sl} {y1 y6 : Int}
def J1 (k : Nat) (rec0 : Sl → Int → Sl → Int → HS → Option ((Sl) × HS)) (y0 : Sl) (y1 : Int) (y5 : Sl) (y6 : Int) (S : HS) : Option ((Sl) × HS) :=
 rec0 y0 y1 y5 (w64 (y6 + 1)) S
theorem J1_snd {rec0 : Sl → Int → Sl → Int → HS → Option ((Sl) × HS)} (hrec0 : ∀ ⦃y0 : Sl⦄ ⦃y1 : Int⦄ ⦃y5 : Sl⦄ ⦃y6 : Int⦄ ⦃S : HS⦄ ⦃p : (Sl) × HS⦄ ⦃q m F Gh i a G B M O K A C E I J L Q U V Z c d : HV⦄,rec0 y0 y1 y5 y6 S = some p → HR b w e 80 none [.inLoop c9,.inBlock 0,.code c23] ⟨[(Sl.hv y0),(.int .i64 y1),q,m,F,(Sl.hv y5),(.int .i64 y6),Gh,i,a,G,B,M,O,K,A,C,E,I,J,L,Q,U,V,Z,c,d],[]⟩ S (RR (Sl.hv p.1) p.2)) {p : (Sl) × HS} (h : J1 k rec0 y0 y1 y5 y6 S = some p) : HR b w e 80 none [.code c22,.inLoop c9,.inBlock 0,.code c23] ⟨[(Sl.hv y0),(.int .i64 y1),q,m,F,(Sl.hv y5),(.int .i64 y6),Gh,i,a,G,B,M,O,K,A,C,E,I,J,L,Q,U,V,Z,c,d],[]⟩ S (RR (Sl.hv p.1) p.2) := by
 unfold J1 at h
 refine qR rfl rfl (uM 11 rfl rfl (uC 12 rfl rfl rfl (uA 6 rfl rfl (rE ?_))))
 dsimp only [w0,w1,w2,w3]
 exact hrec0 h
def L0 (k : Nat) : Nat → Sl → Int → Sl → Int → HS → Option ((Sl) × HS)
 | 0,_,_,_,_,_ => none
 | n + 1,y0,y1,y5,y6,S =>
  (if y6 < (Sl.len y0 : Int) then
  ((S.idx y0 y6 1).bind fun p2 =>
  ((S.ldI .i64 p2).bind fun p3 =>
  (if (!decide (p3 = y1)) = true then
  ((S.idx y0 y6 1).bind fun p5 =>
  ((S.ldI .i64 p5).bind fun p6 =>
  (letv (HS.lit S [[(.int .i64 p6)]] 1) fun p7 =>
  ((p7.2.rows (p7.1) 1).bind fun p8 =>
  ((p7.2.app y5 p8 1).bind fun p9 =>
  J1 k (L0 k n) y0 y1 (p9.1) y6 (p9.2)))))) else
  J1 k (L0 k n) y0 y1 y5 y6 S))) else
  some (y5,S))
theorem L0_snd  : ∀ {n : Nat} ⦃y0 : Sl⦄ ⦃y1 : Int⦄ ⦃y5 : Sl⦄ ⦃y6 : Int⦄ ⦃S : HS⦄ ⦃p : (Sl) × HS⦄ ⦃q m F Gh i a G B M O K A C E I J L Q U V Z c d : HV⦄,L0 k n y0 y1 y5 y6 S = some p → HR b w e 80 none [.inLoop c9,.inBlock 0,.code c23] ⟨[(Sl.hv y0),(.int .i64 y1),q,m,F,(Sl.hv y5),(.int .i64 y6),Gh,i,a,G,B,M,O,K,A,C,E,I,J,L,Q,U,V,Z,c,d],[]⟩ S (RR (Sl.hv p.1) p.2) := by
 intro n
 induction n with
 | zero => intro _ _ _ _ _ _ _ _ _ _ _ _ _ _ _ _ _ _ _ _ _ _ _ _ _ _ _ _ _ h; cases h
 | succ n ih =>
  intro y0 y1 y5 y6 S p q m F Gh i a G B M O K A C E I J L Q U V Z c d h
  simp only [L0] at h
  refine Zxz (qQ rfl (qT rfl rfl rfl (uM 7 rfl rfl (uM 8 rfl rfl (qS 9 rfl (Zxg (q := Sl.a y0) (n := Sl.len y0) (z := Sl.cap y0) · rfl tu42 (.tmp rfl)) (uB 10 rfl rfl rfl rfl (rE ?_)))))))
  dsimp only [w0,w1,w2,w3]
  rcases ifc h with ⟨hc1,h⟩ | ⟨hc1,h⟩
  ·obtain ⟨p2,hp2,p3,hp3,h⟩ := bd2 h
   refine Zxb rfl (.tmp rfl) (decide_eq_true hc1) (Zxd rfl (qQ rfl (Zxo rfl (qT rfl rfl rfl (uM 13 rfl rfl (uM 14 rfl rfl (qS 15 rfl (oX (s := y0) · tu42 sz3 rfl rfl hp2) (uL 16 rfl sc3 rfl rfl (Zxq hp3) ?_))))))))
   try dsimp only [w0,w1,w2,w3]
   refine uM 17 rfl rfl (uB 18 rfl rfl rfl rfl (rE ?_))
   dsimp only [w0,w1,w2,w3]
   rcases ifc h with ⟨hc4,h⟩ | ⟨hc4,h⟩
   ·obtain ⟨p5,hp5,h⟩ := bindo h
    refine Zxb rfl (.tmp rfl) hc4 (qR rfl rfl (uM 19 rfl rfl (uM 20 rfl rfl (uM 21 rfl rfl (qS 22 rfl (oX (s := y0) · tu42 sz3 rfl rfl hp5) ?_)))))
    try dsimp only [w0,w1,w2,w3]
    obtain ⟨p6,hp6,h⟩ := bindo h
    obtain ⟨p7,hp7,h⟩ := leto h
    obtain ⟨p8,hp8,p9,hp9,h⟩ := bd2 h
    refine uL 23 rfl sc3 rfl rfl (Zxq hp6) (qS 24 rfl (Zxp (xs := [(.tmp 23)]) el42 · rfl rfl (by decide) (ev1 rfl) rfl rfl hp7) (qS 25 rfl (Zx1 (s := y5) (s1 := (p7.1)) el42 · rfl rfl ⟨_,tu42⟩ (.tmp rfl) (.tmp rfl) hp8 hp9) (uA 5 rfl rfl (rE ?_))))
    dsimp only [w0,w1,w2,w3]
    refine Zxf ?_
    try dsimp only [w0,w1,w2,w3]
    exact J1_snd ih h
   ·refine Zxc rfl (.tmp rfl) (bfalse hc4) (Zxd rfl (Zxf ?_))
    try dsimp only [w0,w1,w2,w3]
    exact J1_snd ih h
  ·refine Zxc rfl (.tmp rfl) (decide_eq_false hc1) (Zyh rfl rfl (qT rfl rfl rfl (uM 26 rfl rfl (uA 4 rfl rfl (rE ?_)))))
   cases h
   exact Zxl rfl at_.at_ rfl (res1 rfl rfl) ⟨rfl,rfl⟩
def f (k : Nat) (x0 : Sl) (x1 : Int) (S : HS) : Option ((Sl) × HS) :=
 L0 k k x0 x1 Sl.nil 0 S
theorem snd {x0 : Sl} {x1 : Int}  {p : (Sl) × HS} (h : f k x0 x1 S = some p) : HC b w e 80 [(Sl.hv x0),(.int .i64 x1)] S (RR (Sl.hv p.1) p.2) := by
 unfold f at h
 refine HCall.of_run at_.at_ body ?_
 show HR b w e 80 none [.code c0] ⟨[(Sl.hv x0),(.int .i64 x1),z,z,z,z,z,z,z,z,z,z,z,z,z,z,z,z,z,z,z,z,z,z,z,z,z],[]⟩ S _
 refine qT rfl rfl rfl (qS 4 rfl (Zxa · (.const fun _ => .slNil none)) (rE ?_))
 dsimp only [w0,w1,w2,w3]
 refine qT rfl rfl rfl (qS 5 rfl (Zxa · (.const fun _ => .slNil none)) (rE ?_))
 dsimp only [w0,w1,w2,w3]
 refine qQ rfl (qT rfl rfl rfl (qS 6 rfl (Zxa · (.int _ _)) (rE ?_)))
 dsimp only [w0,w1,w2,w3]
 refine Zxo rfl (Zye rfl ?_)
 try dsimp only [w0,w1,w2,w3]
 exact L0_snd  h
end Y64
namespace Y34
theorem at_ : FnAt Tryz.prog 52 Tryz.f52 := ⟨Tryz.func52,by kernel_rfl⟩
def d0 := (Tryz.f52.body).getD .skip
def r2 := kT (kA d0)
def r7 := kT (kB d0)
def r8 := kR (kW d0)
def c0 : Code := .seq (.seq (.region 0 r2 false) (.cond (.tmp 9) .ret .skip)) (.seq (.region 1 r7 false) (.region 2 r8 false))
theorem body : Tryz.f52.body = some c0 := by kernel_rfl
def f (k : Nat) (x0 : HP) (x1 : Int) (x2 : Bool) (S : HS) : Option ((Unit) × HS) :=
 ((Y4.f k x0 x1 S).bind fun p1 =>
 (if p1.1 ≥ 0 then
 some ((),p1.2) else
 (letv (HS.lit p1.2 [] 3) fun p3 =>
 (x0.bind fun p4 =>
 ((p3.2.ldSl (HA.fld p4 2)).bind fun p5 =>
 ((p3.2.rows p5 3).bind fun p6 =>
 ((p3.2.app (p3.1) p6 3).bind fun p7 =>
 (letv (HS.lit (p7.2) [[(.int .i64 x1),(.bool x2),(.bool false)]] 3) fun p8 =>
 ((p8.2.rows (p8.1) 3).bind fun p9 =>
 ((p8.2.app (p7.1) p9 3).bind fun p10 =>
 (x0.bind fun p11 =>
 ((p10.2.sets (HA.fld p11 2) [(Sl.hv (p10.1))]).bind fun p12 =>
 (x0.bind fun p13 =>
 ((p12.ldSl (HA.fld p13 8)).bind fun p14 =>
 ((Y64.f k p14 x1 p12).bind fun p15 =>
 (x0.bind fun p16 =>
 ((p15.2.sets (HA.fld p16 8) [(Sl.hv p15.1)]).bind fun p17 =>
 some ((),p17))))))))))))))))))
theorem snd {x0 : HP} {x1 : Int} {x2 : Bool}  {p : (Unit) × HS} (h : f k x0 x1 x2 S = some p) : HC b w e 52 [(.ptr x0),(.int .i64 x1),(.bool x2)] S (RR (.tup []) p.2) := by
 unfold f at h
 refine HCall.of_run at_.at_ body ?_
 show HR b w e 52 none [.code c0] ⟨[(.ptr x0),(.int .i64 x1),(.bool x2),z,z,z,z,z,z,z,z,z,z,z,z,z,z,z,z,z,z,z,z,z,z,z,z,z,z,z,z,z,z],[]⟩ S _
 obtain ⟨p1,hp1,h⟩ := bindo h
 refine qQ rfl (qT rfl rfl rfl (uM 6 rfl rfl (uM 7 rfl rfl (uQ 8 rfl (.func _) (ev2 rfl rfl) (HInv.static Y4.at_ Y4.body (Y4.snd  hp1)) (uC 9 rfl rfl rfl (rE ?_))))))
 dsimp only [w0,w1,w2,w3]
 rcases ifc h with ⟨hc2,h⟩ | ⟨hc2,h⟩
 ·cases h
  exact Zxb rfl (.tmp rfl) (decide_eq_true hc2) (Zxl rfl at_.at_ rfl (res0 rfl) ⟨rfl,rfl⟩)
 ·obtain ⟨p3,hp3,h⟩ := leto h
  obtain ⟨p4,hp4,h⟩ := bindo h
  refine Zxc rfl (.tmp rfl) (decide_eq_false hc2) (Zxd rfl (qT rfl rfl rfl (uM 10 rfl rfl (qS 11 rfl (Zxp (xs := []) el87 · rfl rfl (by decide) Evs.nil rfl rfl hp3) (uM 12 rfl rfl (uN 13 rfl rfl hp4 ?_))))))
  try dsimp only [w0,w1,w2,w3]
  obtain ⟨p5,hp5,p6,hp6,p7,hp7,h⟩ := bd3 h
  refine uF 14 rfl Zaam (by decide) rfl rfl (uL 15 rfl sc87 rfl rfl (Zxj hp5) (qS 16 rfl (Zx1 (s := (p3.1)) (s1 := p5) el87 · rfl rfl ⟨_,tu87⟩ (.tmp rfl) (.tmp rfl) hp6 hp7) (uM 17 rfl rfl ?_)))
  try dsimp only [w0,w1,w2,w3]
  obtain ⟨p8,hp8,h⟩ := leto h
  obtain ⟨p9,hp9,p10,hp10,h⟩ := bd2 h
  refine uM 18 rfl rfl (qS 19 rfl (Zy1 (is := [0,1]) (xs := [(.tmp 17),(.tmp 18)]) (r := [(.int .i64 x1),(.bool x2),(.bool false)]) st62 · rfl rfl (ev2 rfl rfl) rfl) (qS 20 rfl (Zxp (xs := [(.tmp 19)]) el87 · rfl rfl (by decide) (ev1 rfl) rfl rfl hp8) (qS 21 rfl (Zx1 (s := (p7.1)) (s1 := (p8.1)) el87 · rfl rfl ⟨_,tu87⟩ (.tmp rfl) (.tmp rfl) hp9 hp10) ?_)))
  try dsimp only [w0,w1,w2,w3]
  obtain ⟨p11,hp11,p12,hp12,h⟩ := bd2 h
  refine uN 22 rfl rfl hp11 (uF 23 rfl Zaam (by decide) rfl rfl (qN rfl (Zxk (v := (Sl.hv (p10.1))) · sz87 (.tmp rfl) rfl (.tmp rfl) rfl hp12) (rE ?_)))
  dsimp only [w0,w1,w2,w3]
  obtain ⟨p13,hp13,h⟩ := bindo h
  refine qR rfl rfl (uM 24 rfl rfl (uM 25 rfl rfl (uN 26 rfl rfl hp13 (uF 27 rfl fi89_8 (by decide) rfl rfl ?_))))
  try dsimp only [w0,w1,w2,w3]
  obtain ⟨p14,hp14,p15,hp15,h⟩ := bd2 h
  refine uL 28 rfl sc42 rfl rfl (Zxj hp14) (uM 29 rfl rfl (uQ 30 rfl (.func _) (ev2 rfl rfl) (HInv.static Y64.at_ Y64.body (Y64.snd  hp15)) ?_))
  obtain ⟨p16,hp16,h⟩ := bindo h
  refine uN 31 rfl rfl hp16 ?_
  try dsimp only [w0,w1,w2,w3]
  obtain ⟨p17,hp17,h⟩ := bindo h
  refine uF 32 rfl fi89_8 (by decide) rfl rfl (qN rfl (Zxk (v := (Sl.hv p15.1)) · sz42 (.tmp rfl) rfl (.tmp rfl) rfl hp17) (rE ?_))
  dsimp only [w0,w1,w2,w3]
  cases h
  exact Zzq at_.at_ rfl (res0 rfl) ⟨rfl,rfl⟩
end Y34
namespace Y10
theorem at_ : FnAt Tryz.prog 13 Tryz.f13 := ⟨Tryz.func13,by kernel_rfl⟩
def d0 := (Tryz.f13.body).getD .skip
def r1 := kT d0
def r3 := kT (kB d0)
def r6 := kT (kY (kB d0))
def r9 := kT (kY (kY (kB d0)))
def d12 := kW (kB d0)
def r14 := kT (kA d12)
def r17 := kT (kY (kA d12))
def r22 := kT (kY d12)
def d23 := kZ (kB d12)
def r25 := kT (kA d23)
def r27 := kT (kZ d23)
def r28 := kR (kW (kA d23))
def r29 := kR (kB d23)
def r31 := kT (kW d12)
def c30 : Code := .seq (.region 11 r31 false) .ret
def c20 : Code := .seq (.seq (.region 6 r22 false) (.cond (.tmp 47) (.seq (.region 7 r25 false) (.seq (.region 8 r27 false) (.region 9 r28 false))) (.region 10 r29 false))) c30
def c15 : Code := .cond (.tmp 45) (.seq (.region 5 r17 false) .ret) .skip
def c12 : Code := .seq (.seq (.region 4 r14 true) c15) c20
def c7 : Code := .cond (.tmp 19) (.seq (.region 3 r9 false) .ret) .skip
def c0 : Code := .seq (.region 0 r1 false) (.seq (.region 1 r3 false) (.seq (.seq (.region 2 r6 false) c7) c12))
theorem body : Tryz.f13.body = some c0 := by kernel_rfl
variable {y0 y8 : HP} {y1 : Int} {y2 : (List UInt8)} {y19 y45 : Bool}
def J2 (k : Nat) (y8 : HP) (S : HS) : Option ((HP × Int) × HS) :=
 some ((y8,0),S)
theorem J2_snd  {p : (HP × Int) × HS} (h : J2 k y8 S = some p) : HR b w e 13 none [.code c30] ⟨[Ga,j,q,m,F,o,N,Gh,(.ptr y8),a,G,B,M,O,K,A,C,E,I,J,L,Q,U,V,Z,c,d,g,r,Kd,Ke,Kf,Kg,Kh,Ki,Kj,Kk,Kl,Km,Kn,Ko,Kp,Kq,Kr,Ks,Kt,Ku,Kv,Kw,Kx,Ky,Kz,Ma,Mb,Mc,Md,Me,Mf,Mg,Mh,Mi,Mj,Mk,Ml,Mm,Mn,Mo,Mp,Mq,Mr,Ms,Mt,Mu],[]⟩ S (RR (.tup [(.ptr p.1.1),(.int .i64 p.1.2)]) p.2) := by
 unfold J2 at h
 refine qT rfl rfl rfl (uM 72 rfl rfl (uA 6 rfl rfl (qS 7 rfl (Zxa · (.int _ _)) (rE ?_))))
 cases h
 exact Zxl rfl at_.at_ rfl (res2 rfl rfl rfl) ⟨rfl,rfl⟩
def J1 (k : Nat) (y0 : HP) (y1 : Int) (y2 : (List UInt8)) (y8 : HP) (y45 : Bool) (S : HS) : Option ((HP × Int) × HS) :=
 (if y45 = true then
 some ((none,405),S) else
 (if (Option.isNone y8) = true then
 (y0.bind fun p13 =>
 ((S.ldI .i64 (HA.fld p13 2)).bind fun p14 =>
 ((Y93.f y2 p14 S).bind fun p15 =>
 ((Y34.f k p15.1 y1 true p15.2).bind fun p16 =>
 (letv (HS.lit p16.2 [] 1) fun p17 =>
 (y0.bind fun p18 =>
 ((p17.2.ldSl (HA.fld p18 3)).bind fun p19 =>
 ((p17.2.rows p19 1).bind fun p20 =>
 ((p17.2.app (p17.1) p20 1).bind fun p21 =>
 (letv (HS.lit (p21.2) [[(.ptr p15.1)]] 1) fun p22 =>
 ((p22.2.rows (p22.1) 1).bind fun p23 =>
 ((p22.2.app (p21.1) p23 1).bind fun p24 =>
 (y0.bind fun p25 =>
 ((p24.2.sets (HA.fld p25 3) [(Sl.hv (p24.1))]).bind fun p26 =>
 J2 k p15.1 p26)))))))))))))) else
 ((Y34.f k y8 y1 false S).bind fun p27 =>
 J2 k y8 p27.2)))
theorem J1_snd  {p : (HP × Int) × HS} (h : J1 k y0 y1 y2 y8 y45 S = some p) : HR b w e 13 none [.code c15,.code c20] ⟨[(.ptr y0),(.int .i64 y1),(.str y2),m,F,o,N,Gh,(.ptr y8),a,G,B,M,O,K,A,C,E,I,J,L,Q,U,V,Z,c,d,g,r,Kd,Ke,Kf,Kg,Kh,Ki,Kj,Kk,Kl,Km,Kn,Ko,Kp,Kq,Kr,Ks,(.bool y45),Ku,Kv,Kw,Kx,Ky,Kz,Ma,Mb,Mc,Md,Me,Mf,Mg,Mh,Mi,Mj,Mk,Ml,Mm,Mn,Mo,Mp,Mq,Mr,Ms,Mt,Mu],[]⟩ S (RR (.tup [(.ptr p.1.1),(.int .i64 p.1.2)]) p.2) := by
 unfold J1 at h
 rcases ifc h with ⟨hc11,h⟩ | ⟨hc11,h⟩
 ·refine Zxb rfl (.tmp rfl) hc11 (qT rfl rfl rfl (qS 6 rfl (Zxa · (.const fun _ => .ptrNil)) (qS 7 rfl (Zxa · (.int _ _)) (rE ?_))))
  cases h
  exact Zxl rfl at_.at_ rfl (res2 rfl rfl rfl) ⟨rfl,rfl⟩
 ·refine Zxc rfl (.tmp rfl) (bfalse hc11) (Zxd rfl (qQ rfl (qT rfl rfl rfl (uM 46 rfl rfl (qS 47 rfl (Zxt · tu39 (.tmp rfl) (.inl ⟨rfl,rfl⟩)) (rE ?_))))))
  dsimp only [w0,w1,w2,w3]
  rcases ifc h with ⟨hc12,h⟩ | ⟨hc12,h⟩
  ·obtain ⟨p13,hp13,h⟩ := bindo h
   refine Zxb rfl (.tmp rfl) hc12 (qT rfl rfl rfl (uM 48 rfl rfl (uM 49 rfl rfl (uN 50 rfl rfl hp13 (uF 51 rfl fi32_2 (by decide) rfl rfl ?_)))))
   try dsimp only [w0,w1,w2,w3]
   obtain ⟨p14,hp14,p15,hp15,h⟩ := bd2 h
   refine uL 52 rfl sc3 rfl rfl (Zxq hp14) (uQ 53 rfl (.func _) (ev2 rfl rfl) (HInv.static Y93.at_ Y93.body (Y93.snd  hp15)) (uA 8 rfl rfl (rE ?_)))
   dsimp only [w0,w1,w2,w3]
   obtain ⟨p16,hp16,h⟩ := bindo h
   refine qT rfl rfl rfl (uM 54 rfl rfl (uM 55 rfl rfl (uQ 56 rfl (.func _) (.cons (.tmp rfl) (.cons (.tmp rfl) (.cons (.bool _) Evs.nil))) (HInv.static Y34.at_ Y34.body (Y34.snd  hp16)) (rE ?_))))
   dsimp only [w0,w1,w2,w3]
   obtain ⟨p17,hp17,h⟩ := leto h
   obtain ⟨p18,hp18,h⟩ := bindo h
   refine qR rfl rfl (uM 57 rfl rfl (qS 58 rfl (Zxp (xs := []) el30 · rfl rfl (by decide) Evs.nil rfl rfl hp17) (uM 59 rfl rfl (uN 60 rfl rfl hp18 ?_))))
   try dsimp only [w0,w1,w2,w3]
   obtain ⟨p19,hp19,p20,hp20,p21,hp21,h⟩ := bd3 h
   refine uF 61 rfl Zz7 (by decide) rfl rfl (uL 62 rfl sc30 rfl rfl (Zxj hp19) (qS 63 rfl (Zx1 (s := (p17.1)) (s1 := p19) el30 · rfl rfl ⟨_,tu30⟩ (.tmp rfl) (.tmp rfl) hp20 hp21) (uM 64 rfl rfl ?_)))
   try dsimp only [w0,w1,w2,w3]
   obtain ⟨p22,hp22,h⟩ := leto h
   obtain ⟨p23,hp23,p24,hp24,p25,hp25,h⟩ := bd3 h
   refine qS 65 rfl (Zxp (xs := [(.tmp 64)]) el30 · rfl rfl (by decide) (ev1 rfl) rfl rfl hp22) (qS 66 rfl (Zx1 (s := (p21.1)) (s1 := (p22.1)) el30 · rfl rfl ⟨_,tu30⟩ (.tmp rfl) (.tmp rfl) hp23 hp24) (uN 67 rfl rfl hp25 (uF 68 rfl Zz7 (by decide) rfl rfl ?_)))
   try dsimp only [w0,w1,w2,w3]
   obtain ⟨p26,hp26,h⟩ := bindo h
   refine qN rfl (Zxk (v := (Sl.hv (p24.1))) · sz30 (.tmp rfl) rfl (.tmp rfl) rfl hp26) (rE ?_)
   try dsimp only [w0,w1,w2,w3]
   exact J2_snd  h
  ·obtain ⟨p27,hp27,h⟩ := bindo h
   refine Zxc rfl (.tmp rfl) (bfalse hc12) (qR rfl rfl (uM 69 rfl rfl (uM 70 rfl rfl (uQ 71 rfl (.func _) (.cons (.tmp rfl) (.cons (.tmp rfl) (.cons (.bool _) Evs.nil))) (HInv.static Y34.at_ Y34.body (Y34.snd  hp27)) (rE ?_)))))
   dsimp only [w0,w1,w2,w3]
   exact J2_snd  h
def J0 (k : Nat) (y0 : HP) (y1 : Int) (y2 : (List UInt8)) (y8 : HP) (y19 : Bool) (S : HS) : Option ((HP × Int) × HS) :=
 (if y19 = true then
 some ((y8,0),S) else
 ((Y0.f k y0 y1 false S).bind fun p5 =>
 (y0.bind fun p6 =>
 ((p5.2.ldI .i64 (HA.fld p6 1)).bind fun p7 =>
 ((S.ldI .i64 (HA.fld p6 1)).bind fun p8 =>
 (if p8 = p7 then
 (if (Sl.len p5.1 : Int) ≥ p7 then
 J1 k y0 y1 y2 y8 true p5.2 else
 (if (Option.isNone y8) = true then
 (y0.bind fun p29 =>
 ((p5.2.ldSl (HA.fld p29 3)).bind fun p30 =>
 (y0.bind fun p31 =>
 ((p5.2.ldI .i64 (HA.fld p31 0)).bind fun p32 =>
 J1 k y0 y1 y2 y8 (decide ((Sl.len p30 : Int) ≥ p32)) p5.2)))) else
 J1 k y0 y1 y2 y8 false p5.2)) else none))))))
theorem J0_snd  {p : (HP × Int) × HS} (h : J0 k y0 y1 y2 y8 y19 S = some p) : HR b w e 13 none [.code c7,.code c12] ⟨[(.ptr y0),(.int .i64 y1),(.str y2),m,F,o,N,Gh,(.ptr y8),a,G,B,M,O,K,A,C,E,I,(.bool y19),L,Q,U,V,Z,c,d,g,r,Kd,Ke,Kf,Kg,Kh,Ki,Kj,Kk,Kl,Km,Kn,Ko,Kp,Kq,Kr,Ks,Kt,Ku,Kv,Kw,Kx,Ky,Kz,Ma,Mb,Mc,Md,Me,Mf,Mg,Mh,Mi,Mj,Mk,Ml,Mm,Mn,Mo,Mp,Mq,Mr,Ms,Mt,Mu],[]⟩ S (RR (.tup [(.ptr p.1.1),(.int .i64 p.1.2)]) p.2) := by
 unfold J0 at h
 rcases ifc h with ⟨hc4,h⟩ | ⟨hc4,h⟩
 ·refine Zxb rfl (.tmp rfl) hc4 (qT rfl rfl rfl (uM 20 rfl rfl (uA 6 rfl rfl (qS 7 rfl (Zxa · (.int _ _)) (rE ?_)))))
  cases h
  exact Zxl rfl at_.at_ rfl (res2 rfl rfl rfl) ⟨rfl,rfl⟩
 ·refine Zxc rfl (.tmp rfl) (bfalse hc4) (Zxd rfl (qQ rfl (qQ rfl ?_)))
  refine Zx8 (cls := [0,0,2,0,0,0,0,3,0,0,0,0,0,0,0,0,1,0,0,0,0,1,0,0,0]) (rk := [0,1,2,3,4,5,6,7,8,9,10,11,12,13,14,15,16,17,18,19,20,21,22,23,24]) rfl (by kernel_rfl) ?_
  refine xf 21 [0] rfl (oM · rfl) ?_
  refine xf 22 [1] rfl (oM · rfl) ?_
  obtain ⟨p5,hp5,h⟩ := bindo h
  refine Zzc (Zaa3 (dst := some 23) (ts := [21,22]) rfl (by kernel_rfl) (.func _) (.cons (.tmp rfl) (.cons (.tmp rfl) (.cons (.bool _) Evs.nil))) (HInv.static Y0.at_ Y0.body (Y0.snd  hp5))) rfl trivial ?_
  refine xf 24 [23] rfl (Zxg (q := Sl.a p5.1) (n := Sl.len p5.1) (z := Sl.cap p5.1) · rfl tu30 (.tmp rfl)) ?_
  try dsimp only [w0,w1,w2,w3]
  refine xf 25 [0] rfl (oM · rfl) ?_
  obtain ⟨p6,hp6,h⟩ := bindo h
  refine xf 26 [25] rfl (oN · rfl hp6) ?_
  refine xf 27 [26] rfl (oF · fi32_1 (by decide) rfl rfl) ?_
  obtain ⟨p7,hp7,p8,hp8,h⟩ := bd2 h
  obtain ⟨hg9,h⟩ := gd h
  refine Zx3 (r_op (dst := some 28) (ts := [27]) rfl (by intro _ _ h; cases h) (by kernel_rfl) (fun _ ho => Zxs ho sc3 (.tmp rfl) rfl (Zxq hp7))) rfl ⟨.inr (l_op (dst := some 28) (ts := [27]) rfl (by intro _ _ h; cases h) (by kernel_rfl) (fun _ ho => Zxs ho sc3 (.tmp rfl) rfl (Zxq (hp8.trans (congrArg some hg9))))),trivial⟩ ?_
  try dsimp only [w0,w1,w2,w3]
  refine xf 29 [24,28] rfl (oB · rfl rfl rfl) ?_
  refine xf 30 [29] rfl (oM · rfl) ?_
  rcases ifc h with ⟨hc10,h⟩ | ⟨hc10,h⟩
  ·refine xfs 31 30 [8,30] rfl (decide_eq_true hc10) ?_
   refine xfs 32 30 [31,30] rfl (decide_eq_true hc10) ?_
   try dsimp only [w0,w1,w2,w3]
   refine xfs 33 30 [32,30] rfl (decide_eq_true hc10) ?_
   refine Zaa1 (Zzg (dst := some 34) (t := 33) (ts := [0,33]) rfl (by kernel_rfl) rfl rfl) rfl (by decide) (by decide) ?_
   refine Zaa1 (Zzg (dst := some 35) (t := 33) (ts := [34,33]) rfl (by kernel_rfl) rfl rfl) rfl (by decide) (by decide) ?_
   refine Zaa1 (Zzg (dst := some 36) (t := 33) (ts := [35,33]) rfl (by kernel_rfl) rfl rfl) rfl (by decide) (by decide) ?_
   try dsimp only [w0,w1,w2,w3]
   refine Zaa1 (Zz0 (dst := some 37) (t := 33) (ts := [36,33]) rfl (by kernel_rfl) rfl rfl) rfl (by decide) (by decide) ?_
   refine Zaa1 (Zzg (dst := some 38) (t := 33) (ts := [37,33]) rfl (by kernel_rfl) rfl rfl) rfl (by decide) (by decide) ?_
   refine Zaa1 (Zzg (dst := some 39) (t := 33) (ts := [0,33]) rfl (by kernel_rfl) rfl rfl) rfl (by decide) (by decide) ?_
   refine Zaa1 (Zzg (dst := some 40) (t := 33) (ts := [39,33]) rfl (by kernel_rfl) rfl rfl) rfl (by decide) (by decide) ?_
   try dsimp only [w0,w1,w2,w3]
   refine Zaa1 (Zzg (dst := some 41) (t := 33) (ts := [40,33]) rfl (by kernel_rfl) rfl rfl) rfl (by decide) (by decide) ?_
   refine Zaa1 (Zz0 (dst := some 42) (t := 33) (ts := [41,33]) rfl (by kernel_rfl) rfl rfl) rfl (by decide) (by decide) ?_
   refine Zaa1 (Zzg (dst := some 43) (t := 33) (ts := [38,42,33]) rfl (by kernel_rfl) rfl rfl) rfl (by decide) (by decide) ?_
   refine xfs 44 30 [33,43,30] rfl (decide_eq_true hc10) ?_
   try dsimp only [w0,w1,w2,w3]
   refine xf 45 [30,44] rfl (Zxh · (.tmp rfl) (decide_eq_true hc10) (.bool _)) ?_
   refine Zx5 rfl ?_
   refine rE ?_
   try dsimp only [w0,w1,w2,w3]
   exact J1_snd  h
  ·refine xfg 31 30 [8,30] rfl (decide_eq_false hc10) (oM · rfl) ?_
   refine xfg 32 30 [31,30] rfl (decide_eq_false hc10) (Zxt · tu39 (.tmp rfl) (.inl ⟨rfl,rfl⟩)) ?_
   try dsimp only [w0,w1,w2,w3]
   refine xfg 33 30 [32,30] rfl (decide_eq_false hc10) (oM · rfl) ?_
   rcases ifc h with ⟨hc28,h⟩ | ⟨hc28,h⟩
   ·refine xfg 34 33 [0,33] rfl hc28 (oM · rfl) ?_
    obtain ⟨p29,hp29,h⟩ := bindo h
    refine xfg 35 33 [34,33] rfl hc28 (oN · rfl hp29) ?_
    refine xfg 36 33 [35,33] rfl hc28 (oF · Zz7 (by decide) rfl rfl) ?_
    try dsimp only [w0,w1,w2,w3]
    obtain ⟨p30,hp30,h⟩ := bindo h
    refine xrg 37 33 [36,33] rfl hc28 (oL · sc30 rfl rfl (Zxj hp30)) ?_
    refine xfg 38 33 [37,33] rfl hc28 (Zxg (q := Sl.a p30) (n := Sl.len p30) (z := Sl.cap p30) · rfl tu30 (.tmp rfl)) ?_
    refine xfg 39 33 [0,33] rfl hc28 (oM · rfl) ?_
    obtain ⟨p31,hp31,h⟩ := bindo h
    refine xfg 40 33 [39,33] rfl hc28 (oN · rfl hp31) ?_
    try dsimp only [w0,w1,w2,w3]
    refine xfg 41 33 [40,33] rfl hc28 (oF · fi32_0 (by decide) rfl rfl) ?_
    obtain ⟨p32,hp32,h⟩ := bindo h
    refine xrg 42 33 [41,33] rfl hc28 (oL · sc3 rfl rfl (Zxq hp32)) ?_
    refine xfg 43 33 [38,42,33] rfl hc28 (oB · rfl rfl rfl) ?_
    refine xfg 44 30 [33,43,30] rfl (decide_eq_false hc10) (Zxh · (.tmp rfl) hc28 (.tmp rfl)) ?_
    try dsimp only [w0,w1,w2,w3]
    refine xf 45 [30,44] rfl (Zxm · (.tmp rfl) (decide_eq_false hc10) (.tmp rfl)) ?_
    refine Zx5 rfl ?_
    refine rE ?_
    try dsimp only [w0,w1,w2,w3]
    exact J1_snd  h
   ·refine xfs 34 33 [0,33] rfl (bfalse hc28) ?_
    refine xfs 35 33 [34,33] rfl (bfalse hc28) ?_
    refine xfs 36 33 [35,33] rfl (bfalse hc28) ?_
    try dsimp only [w0,w1,w2,w3]
    refine xrs 37 33 [36,33] rfl (bfalse hc28) ?_
    refine xfs 38 33 [37,33] rfl (bfalse hc28) ?_
    refine xfs 39 33 [0,33] rfl (bfalse hc28) ?_
    refine xfs 40 33 [39,33] rfl (bfalse hc28) ?_
    try dsimp only [w0,w1,w2,w3]
    refine xfs 41 33 [40,33] rfl (bfalse hc28) ?_
    refine xrs 42 33 [41,33] rfl (bfalse hc28) ?_
    refine xfs 43 33 [38,42,33] rfl (bfalse hc28) ?_
    refine xfg 44 30 [33,43,30] rfl (decide_eq_false hc10) (Zxm · (.tmp rfl) (bfalse hc28) (.bool _)) ?_
    try dsimp only [w0,w1,w2,w3]
    refine xf 45 [30,44] rfl (Zxm · (.tmp rfl) (decide_eq_false hc10) (.tmp rfl)) ?_
    refine Zx5 rfl ?_
    refine rE ?_
    try dsimp only [w0,w1,w2,w3]
    exact J1_snd  h
def f (k : Nat) (x0 : HP) (x1 : Int) (x2 : (List UInt8)) (S : HS) : Option ((HP × Int) × HS) :=
 ((Y17.f k x0 x2 S).bind fun p1 =>
 (if (!Option.isNone p1.1) = true then
 ((Y4.f k p1.1 x1 p1.2).bind fun p3 =>
 J0 k x0 x1 x2 p1.1 (decide (p3.1 ≥ 0)) p3.2) else
 J0 k x0 x1 x2 p1.1 false p1.2))
theorem snd {x0 : HP} {x1 : Int} {x2 : (List UInt8)}  {p : (HP × Int) × HS} (h : f k x0 x1 x2 S = some p) : HC b w e 13 [(.ptr x0),(.int .i64 x1),(.str x2)] S (RR (.tup [(.ptr p.1.1),(.int .i64 p.1.2)]) p.2) := by
 unfold f at h
 refine HCall.of_run at_.at_ body ?_
 show HR b w e 13 none [.code c0] ⟨[(.ptr x0),(.int .i64 x1),(.str x2),z,z,z,z,z,z,z,z,z,z,z,z,z,z,z,z,z,z,z,z,z,z,z,z,z,z,z,z,z,z,z,z,z,z,z,z,z,z,z,z,z,z,z,z,z,z,z,z,z,z,z,z,z,z,z,z,z,z,z,z,z,z,z,z,z,z,z,z,z,z],[]⟩ S _
 refine qT rfl rfl rfl (qS 6 rfl (Zxa · (.const fun _ => .ptrNil)) (qS 7 rfl (Zxa · (.int _ _)) (rE ?_)))
 dsimp only [w0,w1,w2,w3]
 obtain ⟨p1,hp1,h⟩ := bindo h
 refine qT rfl rfl rfl (uM 9 rfl rfl (uM 10 rfl rfl (uQ 11 rfl (.func _) (ev2 rfl rfl) (HInv.static Y17.at_ Y17.body (Y17.snd  hp1)) (uA 8 rfl rfl (rE ?_)))))
 dsimp only [w0,w1,w2,w3]
 refine qQ rfl (qT rfl rfl rfl (uM 12 rfl rfl (qS 13 rfl (Zxt · tu39 (.tmp rfl) (.inr ⟨rfl,rfl⟩)) (uM 14 rfl rfl ?_))))
 rcases ifc h with ⟨hc2,h⟩ | ⟨hc2,h⟩
 ·refine qG 14 15 rfl hc2 (oM · rfl) ?_
  try dsimp only [w0,w1,w2,w3]
  obtain ⟨p3,hp3,h⟩ := bindo h
  refine qG 14 16 rfl hc2 (oM · rfl) (Zyp (t := 14) (dst := some 17) rfl rfl rfl hc2 (.func _) (ev2 rfl rfl) (HInv.static Y4.at_ Y4.body (Y4.snd  hp3)) ?_)
  rintro _ _ ⟨rfl,rfl⟩
  refine qG 14 18 rfl hc2 (oC · rfl rfl) (qS 19 rfl (Zxh · (.tmp rfl) hc2 (.tmp rfl)) (rE ?_))
  dsimp only [w0,w1,w2,w3]
  exact J0_snd  h
 ·refine Zxi (dst := some 15) (t := 14) rfl rfl rfl (bfalse hc2) ?_
  try dsimp only [w0,w1,w2,w3]
  refine Zxi (dst := some 16) (t := 14) rfl rfl rfl (bfalse hc2) (Zxi (dst := some 17) (t := 14) rfl rfl rfl (bfalse hc2) (Zxi (dst := some 18) (t := 14) rfl rfl rfl (bfalse hc2) (qS 19 rfl (Zxm · (.tmp rfl) (bfalse hc2) (.bool _)) (rE ?_))))
  dsimp only [w0,w1,w2,w3]
  exact J0_snd  h
end Y10
namespace Y43
theorem at_ : FnAt Tryz.prog 30 Tryz.f30 := ⟨Tryz.func30,by kernel_rfl⟩
def d0 := (Tryz.f30.body).getD .skip
def r1 := kT d0
def r4 := kT (kY d0)
def r7 := kT (kY (kY d0))
def r11 := kT (kW d0)
def c0 : Code := .seq (.region 0 r1 false) (.seq (.seq (.region 1 r4 false) (.cond (.tmp 4) (.seq (.region 2 r7 false) .ret) .skip)) (.seq (.region 3 r11 false) .ret))
theorem body : Tryz.f30.body = some c0 := by kernel_rfl
def f (x0 : HP) (S : HS) : Option (((List UInt8)) × HS) :=
 (if (Option.isNone x0) = true then
 some (([] : List UInt8),S) else
 (x0.bind fun p2 =>
 ((S.ldS (HA.fld p2 0)).bind fun p3 =>
 some (p3,S))))
theorem snd {x0 : HP}  {p : ((List UInt8)) × HS} (h : f x0 S = some p) : HC b w e 30 [(.ptr x0)] S (RR (.str p.1) p.2) := by
 unfold f at h
 refine HCall.of_run at_.at_ body ?_
 show HR b w e 30 none [.code c0] ⟨[(.ptr x0),z,z,z,z,z,z,z,z],[]⟩ S _
 refine qT rfl rfl rfl (qS 2 rfl (Zxa · (.str _)) (rE ?_))
 dsimp only [w0,w1,w2,w3]
 refine qQ rfl (qT rfl rfl rfl (uM 3 rfl rfl (qS 4 rfl (Zxt · tu39 (.tmp rfl) (.inl ⟨rfl,rfl⟩)) (rE ?_))))
 dsimp only [w0,w1,w2,w3]
 rcases ifc h with ⟨hc1,h⟩ | ⟨hc1,h⟩
 ·refine Zxb rfl (.tmp rfl) hc1 (qT rfl rfl rfl (qS 2 rfl (Zxa · (.str _)) (rE ?_)))
  cases h
  exact Zxl rfl at_.at_ rfl (res1 rfl rfl) ⟨rfl,rfl⟩
 ·obtain ⟨p2,hp2,p3,hp3,h⟩ := bd2 h
  refine Zxc rfl (.tmp rfl) (bfalse hc1) (Zxd rfl (qT rfl rfl rfl (uM 5 rfl rfl (uN 6 rfl rfl hp2 (uF 7 rfl Zadk (by decide) rfl rfl (uL 8 rfl sc9 rfl rfl (Zx4 hp3) ?_))))))
  try dsimp only [w0,w1,w2,w3]
  refine uA 2 rfl rfl (rE ?_)
  cases h
  exact Zxl rfl at_.at_ rfl (res1 rfl rfl) ⟨rfl,rfl⟩
end Y43
namespace Y69
theorem at_ : FnAt Tryz.prog 33 Tryz.f33 := ⟨Tryz.func33,by kernel_rfl⟩
def d0 := (Tryz.f33.body).getD .skip
def r1 := kT d0
def r4 := kT (kY d0)
def r7 := kT (kY (kY d0))
def r11 := kT (kW d0)
def c0 : Code := .seq (.region 0 r1 false) (.seq (.seq (.region 1 r4 false) (.cond (.tmp 6) (.seq (.region 2 r7 false) .ret) .skip)) (.seq (.region 3 r11 false) .ret))
theorem body : Tryz.f33.body = some c0 := by kernel_rfl
def f (x0 : HP) (x1 : Int) (S : HS) : Option ((Int) × HS) :=
 (if (Option.isNone x0) = true then
 some (0,S) else
 (x0.bind fun p2 =>
 ((S.ldP (HA.fld p2 16)).bind fun p3 =>
 ((Y32.f p3 x1 S).bind fun p4 =>
 some (p4.1,p4.2)))))
theorem snd {x0 : HP} {x1 : Int}  {p : (Int) × HS} (h : f x0 x1 S = some p) : HC b w e 33 [(.ptr x0),(.int .i64 x1)] S (RR (.int .i64 p.1) p.2) := by
 unfold f at h
 refine HCall.of_run at_.at_ body ?_
 show HR b w e 33 none [.code c0] ⟨[(.ptr x0),(.int .i64 x1),z,z,z,z,z,z,z,z,z,z,z],[]⟩ S _
 refine qT rfl rfl rfl (qS 4 rfl (Zxa · (.int _ _)) (rE ?_))
 dsimp only [w0,w1,w2,w3]
 refine qQ rfl (qT rfl rfl rfl (uM 5 rfl rfl (qS 6 rfl (Zxt · tu25 (.tmp rfl) (.inl ⟨rfl,rfl⟩)) (rE ?_))))
 dsimp only [w0,w1,w2,w3]
 rcases ifc h with ⟨hc1,h⟩ | ⟨hc1,h⟩
 ·refine Zxb rfl (.tmp rfl) hc1 (qT rfl rfl rfl (qS 4 rfl (Zxa · (.int _ _)) (rE ?_)))
  cases h
  exact Zxl rfl at_.at_ rfl (res1 rfl rfl) ⟨rfl,rfl⟩
 ·obtain ⟨p2,hp2,p3,hp3,h⟩ := bd2 h
  refine Zxc rfl (.tmp rfl) (bfalse hc1) (Zxd rfl (qT rfl rfl rfl (uM 7 rfl rfl (uN 8 rfl rfl hp2 (uF 9 rfl Zafi (by decide) rfl rfl (uL 10 rfl sc79 rfl rfl (Zx0 hp3) ?_))))))
  try dsimp only [w0,w1,w2,w3]
  obtain ⟨p4,hp4,h⟩ := bindo h
  refine uM 11 rfl rfl (uQ 12 rfl (.func _) (ev2 rfl rfl) (HInv.static Y32.at_ Y32.body (Y32.snd  hp4)) (uA 4 rfl rfl (rE ?_)))
  cases h
  exact Zxl rfl at_.at_ rfl (res1 rfl rfl) ⟨rfl,rfl⟩
end Y69
namespace Y120
theorem at_ : FnAt Tryz.prog 59 Tryz.f59 := ⟨Tryz.func59,by kernel_rfl⟩
def c0 : Code := .skip
theorem body : Tryz.f59.body = some c0 := by kernel_rfl
def f (x0 : HV) : Option (Unit) :=
 some ()
theorem snd {x0 : HV}  {p : Unit} (h : f x0 = some p) : HC b w e 59 [x0] S (RR (.tup []) S) := by
 unfold f at h
 refine HCall.of_run at_.at_ body ?_
 show HR b w e 59 none [.code c0] ⟨[x0,z],[]⟩ S _
 cases h
 exact Zxd rfl (Zzq at_.at_ rfl (res0 rfl) ⟨rfl,rfl⟩)
end Y120
namespace Y106
theorem at_ : FnAt Tryz.prog 90 Tryz.f90 := ⟨Tryz.func90,by kernel_rfl⟩
def c0 : Code := .skip
theorem body : Tryz.f90.body = some c0 := by kernel_rfl
def f (x0 : HV) : Option (Unit) :=
 some ()
theorem snd {x0 : HV}  {p : Unit} (h : f x0 = some p) : HC b w e 90 [x0] S (RR (.tup []) S) := by
 unfold f at h
 refine HCall.of_run at_.at_ body ?_
 show HR b w e 90 none [.code c0] ⟨[x0,z],[]⟩ S _
 cases h
 exact Zxd rfl (Zzq at_.at_ rfl (res0 rfl) ⟨rfl,rfl⟩)
end Y106
namespace Y83
theorem at_ : FnAt Tryz.prog 92 Tryz.f92 := ⟨Tryz.func92,by kernel_rfl⟩
def d0 := (Tryz.f92.body).getD .skip
def r1 := kT d0
def r4 := kT (kY d0)
def r7 := kT (kY (kY d0))
def r11 := kT (kW d0)
def c0 : Code := .seq (.region 0 r1 false) (.seq (.seq (.region 1 r4 false) (.cond (.tmp 4) (.seq (.region 2 r7 false) .ret) .skip)) (.seq (.region 3 r11 false) .ret))
theorem body : Tryz.f92.body = some c0 := by kernel_rfl
def f (x0 : Sl) (S : HS) : Option ((Sl) × HS) :=
 (if (Option.isNone (Sl.a x0)) = true then
 some (Sl.nil,S) else
 (letv (HS.lit S [] 2) fun p2 =>
 ((p2.2.rows x0 2).bind fun p3 =>
 ((p2.2.app (p2.1) p3 2).bind fun p4 =>
 some ((p4.1),(p4.2))))))
theorem snd {x0 : Sl}  {p : (Sl) × HS} (h : f x0 S = some p) : HC b w e 92 [(Sl.hv x0)] S (RR (Sl.hv p.1) p.2) := by
 unfold f at h
 refine HCall.of_run at_.at_ body ?_
 show HR b w e 92 none [.code c0] ⟨[(Sl.hv x0),z,z,z,z,z,z,z],[]⟩ S _
 refine qT rfl rfl rfl (qS 2 rfl (Zxa · (.const fun _ => .slNil none)) (rE ?_))
 dsimp only [w0,w1,w2,w3]
 refine qQ rfl (qT rfl rfl rfl (uM 3 rfl rfl (qS 4 rfl (Zaan · Zyr (.tmp rfl) (.inl ⟨rfl,rfl⟩)) (rE ?_))))
 dsimp only [w0,w1,w2,w3]
 rcases ifc h with ⟨hc1,h⟩ | ⟨hc1,h⟩
 ·refine Zxb rfl (.tmp rfl) hc1 (qT rfl rfl rfl (qS 2 rfl (Zxa · (.const fun _ => .slNil none)) (rE ?_)))
  cases h
  exact Zxl rfl at_.at_ rfl (res1 rfl rfl) ⟨rfl,rfl⟩
 ·obtain ⟨p2,hp2,h⟩ := leto h
  obtain ⟨p3,hp3,p4,hp4,h⟩ := bd2 h
  refine Zxc rfl (.tmp rfl) (bfalse hc1) (Zxd rfl (qT rfl rfl rfl (qS 5 rfl (Zxp (xs := []) Zab4 · rfl rfl (by decide) Evs.nil rfl rfl hp2) (uM 6 rfl rfl (qS 7 rfl (Zx1 (s := (p2.1)) (s1 := x0) Zab4 · rfl rfl ⟨_,Zyr⟩ (.tmp rfl) (.tmp rfl) hp3 hp4) (uA 2 rfl rfl (rE ?_)))))))
  cases h
  exact Zxl rfl at_.at_ rfl (res1 rfl rfl) ⟨rfl,rfl⟩
end Y83
namespace Y58
theorem at_ : FnAt Tryz.prog 119 Tryz.f119 := ⟨Tryz.func119,by kernel_rfl⟩
def d0 := (Tryz.f119.body).getD .skip
def r1 := kT d0
def d4 := kX (kB d0)
def r5 := kT d4
def r13 := kT (kX (kW d4))
def r15 := kT (kZ (kY (kB d4)))
def r19 := kR (kW (kB d4))
def c4 : Code := .seq (.region 1 r5 false) (.seq (.cond (.tmp 8) .skip (.exit 0)) (.seq (.block 1 (.seq (.region 2 r13 false) (.seq (.region 3 r15 false) (.cond (.tmp 17) .ret .skip)))) (.region 4 r19 false)))
def c0 : Code := .seq (.region 0 r1 false) (.block 0 (.loop c4))
theorem body : Tryz.f119.body = some c0 := by kernel_rfl
def L0 (D : Dp) (H : Hd) (k : Nat) : Nat → HV → Sl → Int → Int → HS → Option ((Unit) × HS)
 | 0,_,_,_,_,_ => none
 | n + 1,y0,y5,y6,y7,S =>
  (if y7 < y6 then
  ((S.idx y5 y7 2).bind fun p4 =>
  ((S.ldS (HA.fld p4 0)).bind fun p5 =>
  ((S.ldP (HA.fld p4 1)).bind fun p6 =>
  (letv (HS.new S (.cells 2 [[(.str []),(.ptr none)]] true)) fun p7 =>
  ((p7.sets (HA.cell0 S.next) [(.str p5),(.ptr p6)]).bind fun p8 =>
  ((p8.ldS (HA.fld (HA.cell0 S.next) 0)).bind fun p9 =>
  ((p8.ldP (HA.fld (HA.cell0 S.next) 1)).bind fun p10 =>
  ((D H y0 [(.str p9),(.ptr p10)] p8).bind fun p11 =>
  ((dB p11.1).bind fun p12 =>
  (if (!p12) = true then
  some ((),p11.2) else
  (L0 D H k n) y0 y5 y6 (w64 (y7 + 1)) p11.2)))))))))) else
  some ((),S))
theorem L0_snd (hD : DS b w D) (hH : HT b w e H) : ∀ {n : Nat} ⦃y0 : HV⦄ ⦃y5 : Sl⦄ ⦃y6 : Int⦄ ⦃y7 : Int⦄ ⦃S : HS⦄ ⦃p : (Unit) × HS⦄ ⦃j q m F i a G B M O K A C E I : HV⦄,L0 D H k n y0 y5 y6 y7 S = some p → HR b w e 119 none [.inLoop c4,.inBlock 0] ⟨[y0,j,q,m,F,(Sl.hv y5),(.int .i64 y6),(.int .i64 y7),i,a,G,B,M,O,K,A,C,E,I],[]⟩ S (RR (.tup []) p.2) := by
 intro n
 induction n with
 | zero => intro _ _ _ _ _ _ _ _ _ _ _ _ _ _ _ _ _ _ _ _ _ h; cases h
 | succ n ih =>
  intro y0 y5 y6 y7 S p j q m F i a G B M O K A C E I h
  simp only [L0] at h
  refine Zxz (qT rfl rfl rfl (uB 8 rfl rfl rfl rfl (rE ?_)))
  dsimp only [w0,w1,w2,w3]
  refine qQ rfl ?_
  rcases ifc h with ⟨hc3,h⟩ | ⟨hc3,h⟩
  ·obtain ⟨p4,hp4,p5,hp5,p6,hp6,h⟩ := bd3 h
   obtain ⟨p7,hp7,h⟩ := leto h
   obtain ⟨p8,hp8,h⟩ := bindo h
   refine Zxb rfl (.tmp rfl) (decide_eq_true hc3) (Zxd rfl (qQ rfl (Zxo rfl (qT rfl rfl rfl (qS 9 rfl (oX (s := y5) · Zyr Zabr rfl rfl hp4) (qS 10 rfl (Zyl (vs := [(.str p5),(.ptr p6)]) · Zajk (.tmp rfl) rfl ⟨Zx4 hp5,Zx0 hp6,trivial⟩ (by simp)) (qS 4 rfl (Zx9 · zi133 zr133 (by decide) rfl hp7) (qN rfl (Zxk (v := (.agg [(.str p5),(.ptr p6)])) · Zabr (.tmp rfl) rfl (.tmp rfl) rfl hp8) (rE ?_)))))))))
   dsimp only [w0,w1,w2,w3]
   obtain ⟨p9,hp9,h⟩ := bindo h
   refine qT rfl rfl rfl (uM 11 rfl rfl (uF 12 rfl Zajl (by decide) rfl rfl (uL 13 rfl sc9 rfl rfl (Zx4 hp9) (uF 14 rfl Zajm (by decide) rfl rfl ?_))))
   try dsimp only [w0,w1,w2,w3]
   obtain ⟨p10,hp10,p11,hp11,p12,hp12,h⟩ := bd3 h
   refine uL 15 rfl sc36 rfl rfl (Zx0 hp10) (uQ 16 rfl (.tmp rfl) (ev2 rfl rfl) (hD _ _ hH _ _ _ _ _ hp11) ?_)
   rw [Zaak hp12]
   refine qS 17 rfl (Zys · (.tmp rfl)) (rE ?_)
   dsimp only [w0,w1,w2,w3]
   rcases ifc h with ⟨hc13,h⟩ | ⟨hc13,h⟩
   ·cases h
    exact Zxb rfl (.tmp rfl) hc13 (Zxl rfl at_.at_ rfl (res0 rfl) ⟨rfl,rfl⟩)
   ·refine Zxc rfl (.tmp rfl) (bfalse hc13) (Zxd rfl (Zxf (qR rfl rfl (uC 18 rfl rfl rfl (uM 7 rfl rfl (rE ?_))))))
    dsimp only [w0,w1,w2,w3]
    exact ih h
  ·cases h
   exact Zxc rfl (.tmp rfl) (decide_eq_false hc3) (Zyh rfl rfl (Zzq at_.at_ rfl (res0 rfl) ⟨rfl,rfl⟩))
def f (D : Dp) (H : Hd) (k : Nat) (x0 : HV) (x1 : HP) (S : HS) : Option ((Unit) × HS) :=
 (x1.bind fun p1 =>
 ((S.ldSl p1).bind fun p2 =>
 L0 D H k k x0 p2 (Sl.len p2 : Int) 0 S))
theorem snd {x0 : HV} {x1 : HP} (hD : DS b w D) (hH : HT b w e H) {p : (Unit) × HS} (h : f D H k x0 x1 S = some p) : HC b w e 119 [x0,(.ptr x1)] S (RR (.tup []) p.2) := by
 unfold f at h
 refine HCall.of_run at_.at_ body ?_
 show HR b w e 119 none [.code c0] ⟨[x0,(.ptr x1),z,z,z,z,z,z,z,z,z,z,z,z,z,z,z,z,z],[]⟩ S _
 obtain ⟨p1,hp1,p2,hp2,h⟩ := bd2 h
 refine qT rfl rfl rfl (uL 5 rfl Zaec rfl hp1 (Zxj hp2) (qS 6 rfl (Zxg (q := Sl.a p2) (n := Sl.len p2) (z := Sl.cap p2) · rfl Zyr (.tmp rfl)) (qS 7 rfl (Zzj · (.int _ _)) (rE ?_))))
 dsimp only [w0,w1,w2,w3]
 refine Zxo rfl (Zye rfl ?_)
 try dsimp only [w0,w1,w2,w3]
 exact L0_snd hD hH h
end Y58
namespace Y78
theorem at_ : FnAt Tryz.prog 91 Tryz.f91 := ⟨Tryz.func91,by kernel_rfl⟩
def d0 := (Tryz.f91.body).getD .skip
def r1 := kT d0
def r3 := kT (kB d0)
def c0 : Code := .seq (.region 0 r1 false) (.seq (.region 1 r3 false) .ret)
theorem body : Tryz.f91.body = some c0 := by kernel_rfl
def f (x0 : Sl) (S : HS) : Option ((HV) × HS) :=
 (letv (HS.new S (.cells 1 [[(Sl.hv x0)]] true)) fun p1 =>
 some ((HV.fn (.func 119) [] [(.ptr (some (HA.cell0 S.next)))]),p1))
theorem snd {x0 : Sl}  {p : (HV) × HS} (h : f x0 S = some p) : HC b w e 91 [(Sl.hv x0)] S (RR p.1 p.2) := by
 unfold f at h
 refine HCall.of_run at_.at_ body ?_
 show HR b w e 91 none [.code c0] ⟨[(Sl.hv x0),z,z,z],[]⟩ S _
 obtain ⟨p1,hp1,h⟩ := leto h
 refine qT rfl rfl rfl (qS 1 rfl (Zyf · (.tmp rfl) (Yav _) rfl hp1) (qS 2 rfl (Zxa · (.const fun _ => .nilFn)) (rE ?_)))
 dsimp only [w0,w1,w2,w3]
 refine qT rfl rfl rfl (qS 3 rfl (Zzh · Evs.nil (ev1 rfl)) (uA 2 rfl rfl (rE ?_)))
 cases h
 exact Zxl rfl at_.at_ rfl (res1 rfl rfl) ⟨rfl,rfl⟩
end Y78
namespace Y71
theorem at_ : FnAt Tryz.prog 60 Tryz.f60 := ⟨Tryz.func60,by kernel_rfl⟩
def d0 := (Tryz.f60.body).getD .skip
def r1 := kT d0
def r4 := kT (kY d0)
def r7 := kT (kY (kY d0))
def r11 := kT (kW d0)
def c0 : Code := .seq (.region 0 r1 false) (.seq (.seq (.region 1 r4 false) (.cond (.tmp 4) (.seq (.region 2 r7 false) .ret) .skip)) (.seq (.region 3 r11 false) .ret))
theorem body : Tryz.f60.body = some c0 := by kernel_rfl
def f (x0 : HP) (S : HS) : Option ((HV) × HS) :=
 (if (Option.isNone x0) = true then
 some ((HV.fn (.func 90) [] []),S) else
 (x0.bind fun p2 =>
 ((S.ldSl (HA.fld p2 1)).bind fun p3 =>
 ((Y83.f p3 S).bind fun p4 =>
 ((Y78.f p4.1 p4.2).bind fun p5 =>
 some (p5.1,p5.2))))))
theorem snd {x0 : HP}  {p : (HV) × HS} (h : f x0 S = some p) : HC b w e 60 [(.ptr x0)] S (RR p.1 p.2) := by
 unfold f at h
 refine HCall.of_run at_.at_ body ?_
 show HR b w e 60 none [.code c0] ⟨[(.ptr x0),z,z,z,z,z,z,z,z,z,z],[]⟩ S _
 refine qT rfl rfl rfl (qS 2 rfl (Zxa · (.const fun _ => .nilFn)) (rE ?_))
 dsimp only [w0,w1,w2,w3]
 refine qQ rfl (qT rfl rfl rfl (uM 3 rfl rfl (qS 4 rfl (Zxt · tu75 (.tmp rfl) (.inl ⟨rfl,rfl⟩)) (rE ?_))))
 dsimp only [w0,w1,w2,w3]
 rcases ifc h with ⟨hc1,h⟩ | ⟨hc1,h⟩
 ·refine Zxb rfl (.tmp rfl) hc1 (qT rfl rfl rfl (qS 2 rfl (Zxa · (.func _)) (rE ?_)))
  cases h
  exact Zxl rfl at_.at_ rfl (res1 rfl rfl) ⟨rfl,rfl⟩
 ·obtain ⟨p2,hp2,p3,hp3,h⟩ := bd2 h
  refine Zxc rfl (.tmp rfl) (bfalse hc1) (Zxd rfl (qT rfl rfl rfl (uM 5 rfl rfl (uN 6 rfl rfl hp2 (uF 7 rfl Zz3 (by decide) rfl rfl (uL 8 rfl Zaec rfl rfl (Zxj hp3) ?_))))))
  try dsimp only [w0,w1,w2,w3]
  obtain ⟨p4,hp4,h⟩ := bindo h
  refine uQ 9 rfl (.func _) (ev1 rfl) (HInv.static Y83.at_ Y83.body (Y83.snd  hp4)) ?_
  obtain ⟨p5,hp5,h⟩ := bindo h
  refine uQ 10 rfl (.func _) (ev1 rfl) (HInv.static Y78.at_ Y78.body (Y78.snd  hp5)) (uA 2 rfl rfl (rE ?_))
  cases h
  exact Zxl rfl at_.at_ rfl (res1 rfl rfl) ⟨rfl,rfl⟩
end Y71
namespace Y65
theorem at_ : FnAt Tryz.prog 61 Tryz.f61 := ⟨Tryz.func61,by kernel_rfl⟩
def d0 := (Tryz.f61.body).getD .skip
def r1 := kT d0
def r3 := kT (kB d0)
def r6 := kT (kY (kB d0))
def r9 := kT (kY (kY (kB d0)))
def c7 : Code := .block 1 (.seq (.region 3 r9 false) (.cond (.tmp 11) .ret .skip))
def c6 : Code := .region 2 r6 false
def c0 : Code := .seq (.region 0 r1 false) (.seq (.region 1 r3 false) (.block 0 (.rangeFunc (.tmp 5) #[6,7] c6 c7)))
theorem body : Tryz.f61.body = some c0 := by kernel_rfl
def J0 (D : Dp) (H : Hd) (l : Nat) (y2 : HP) (y7 : HP) (S : HS) : Option (HV × HS) :=
 ((S.begin_ l).bind fun p5 =>
 (y2.bind fun p6 =>
 ((p5.ldF p6).bind fun p7 =>
 ((D H p7 [(.ptr y7)] p5).bind fun p8 =>
 ((dB p8.1).bind fun p9 =>
 (if (!p9) = true then
 (HS.endr p8.2 l (some .ret)) else
 (HS.endr p8.2 l none)))))))
theorem J0_snd {l : Nat} (hD : DS b w D) (hH : HT b w e H) {y2 : HP} {y7 : HP} {p : HV × HS} (h : J0 D H l y2 y7 S = some p) : HR b w e 61 (some l) [.code c6,.beginRound,.code c7] ⟨[Ga,j,(.ptr y2),m,F,o,N,(.ptr y7),i,a,G,B],[]⟩ S (RR p.1 p.2) := by
 unfold J0 at h
 refine qR rfl rfl (uA 4 rfl rfl (rE ?_))
 dsimp only [w0,w1,w2,w3]
 obtain ⟨p5,hp5,h⟩ := bindo h
 refine Zaaq hp5 ?_
 obtain ⟨p6,hp6,p7,hp7,p8,hp8,p9,hp9,h⟩ := bd4 h
 refine Zxo rfl (qT rfl rfl rfl (uL 8 rfl sc105 rfl hp6 (Zach hp7) (uM 9 rfl rfl (uQ 10 rfl (.tmp rfl) (ev1 rfl) (hD _ _ hH _ _ _ _ _ hp8) ?_))))
 rw [Zaak hp9]
 refine qS 11 rfl (Zys · (.tmp rfl)) (rE ?_)
 dsimp only [w0,w1,w2,w3]
 rcases ifc h with ⟨hc10,h⟩ | ⟨hc10,h⟩
 ·refine Zxb rfl (.tmp rfl) hc10 ?_
  exact Zaab rfl h ⟨rfl,rfl⟩
 ·refine Zxc rfl (.tmp rfl) (bfalse hc10) (Zxd rfl (Zxf ?_))
  exact Zy6 h ⟨rfl,rfl⟩
def f (D : Dp) (H : Hd) (x0 : HV) (x1 : HP) (S : HS) : Option ((Unit) × HS) :=
 ((dF x0).bind fun p1 =>
 (letv (HS.new S (.cells 1 [[p1]] true)) fun p2 =>
 (x1.bind fun p3 =>
 ((p2.ldF p3).bind fun p4 =>
 ((D (Hd.set H (HS.next p2 + 1) fun vs T =>
 ((T.lp (HS.next p2 + 1)).bind fun u14 =>
 ((Zaae vs).bind fun ar11 =>
 ((dS ar11.1).bind fun p12 =>
 ((dP ar11.2).bind fun p13 =>
 (J0 D H (HS.next p2 + 1) (some (HA.cell0 S.next)) p13 T)))))) p4 [.fn (.yield (HS.next p2 + 1)) [] []] (HS.new (HS.new p2 .defer) (.loop .ready none))).bind fun p15 =>
 ((p15.2.finish (HS.next p2 + 1)).bind fun p16 =>
 ((pcode p16.1).bind fun n17 =>
 (if n17 = 0 then
 ((p16.2.leave (HS.next p2 :: [])).bind fun p19 =>
 some ((),p19)) else
 (if n17 = 1 then
 ((p16.2.leave (HS.next p2 :: [])).bind fun p21 =>
 some ((),p21)) else
 none)))))))))
theorem snd {x0 : HV} {x1 : HP} (hD : DS b w D) (hH : HT b w e H) {p : (Unit) × HS} (h : f D H x0 x1 S = some p) : HC b w e 61 [x0,(.ptr x1)] S (RR (.tup []) p.2) := by
 unfold f at h
 refine HCall.of_run at_.at_ body ?_
 show HR b w e 61 none [.code c0] ⟨[x0,(.ptr x1),z,z,z,z,z,z,z,z,z,z],[]⟩ S _
 obtain ⟨p1,hp1,h⟩ := bindo h
 obtain ⟨p2,hp2,h⟩ := leto h
 refine qT rfl rfl rfl (qS 2 rfl (Zaci · (.tmp rfl) hp1 hp2) (rE ?_))
 dsimp only [w0,w1,w2,w3]
 obtain ⟨p3,hp3,p4,hp4,h⟩ := bd2 h
 refine qT rfl rfl rfl (uL 5 rfl sc107 rfl hp3 (Zach hp4) (rE ?_))
 dsimp only [w0,w1,w2,w3]
 obtain ⟨p15,hp15,p16,hp16,h⟩ := bd2 h
 obtain ⟨n17,hn17,h⟩ := bindo h
 refine Zxo rfl ?_
 refine Zaa7 (D := D) (H := H) rfl (.tmp rfl) hD hH hp15 hp16 ?_ ?_
 ·intro β1 hle hLA vs T u T' hr
  obtain ⟨u14,hu14,hr⟩ := bindo hr
  obtain ⟨ar11,har11,hr⟩ := bindo hr
  obtain ⟨p12,hp12,hr⟩ := bindo hr
  obtain ⟨p13,hp13,hr⟩ := bindo hr
  rw [Zzn har11]
  refine Zzy hLA hu14 rfl rfl ?_
  rw [Zaes hp12,Zy3 hp13]
  simp only [HAct.params,List.set_cons_zero,List.set_cons_succ]
  exact J0_snd hD (hH.up hle) hr
 ·rcases ifc h with ⟨hc18,h⟩ | ⟨hc18,h⟩
  ·rw [Zabw hn17 hc18]
   simp only [Zyj,Zyk]
   obtain ⟨p19,hp19,h⟩ := bindo h
   cases h
   exact Zxf (Zzq at_.at_ hp19 (res0 rfl) ⟨rfl,rfl⟩)
  ·rcases ifc h with ⟨hc20,h⟩ | ⟨hc20,h⟩
   ·rw [Zagr hn17 hc20]
    simp only [Zyj,Zyk]
    obtain ⟨p21,hp21,h⟩ := bindo h
    cases h
    exact Zxl rfl at_.at_ hp21 (res0 rfl) ⟨rfl,rfl⟩
   ·cases h
end Y65
namespace Y81
theorem at_ : FnAt Tryz.prog 21 Tryz.f21 := ⟨Tryz.func21,by kernel_rfl⟩
def d0 := (Tryz.f21.body).getD .skip
def r1 := kT d0
def r4 := kT (kY d0)
def r7 := kT (kY (kY d0))
def r11 := kT (kW d0)
def r13 := kT (kW (kB d0))
def c0 : Code := .seq (.region 0 r1 false) (.seq (.seq (.region 1 r4 false) (.cond (.tmp 5) (.seq (.region 2 r7 false) .ret) .skip)) (.seq (.region 3 r11 false) (.seq (.region 4 r13 false) .ret)))
theorem body : Tryz.f21.body = some c0 := by kernel_rfl
def f (x0 : HP) (S : HS) : Option ((HV) × HS) :=
 (if (Option.isNone x0) = true then
 some ((HV.fn (.func 59) [] []),S) else
 (x0.bind fun p2 =>
 ((S.ldP (HA.fld p2 15)).bind fun p3 =>
 ((Y71.f p3 S).bind fun p4 =>
 (letv (HS.new p4.2 (.cells 1 [[.nilFn]] true)) fun p5 =>
 ((dF p4.1).bind fun p6 =>
 ((p5.sets (HA.cell0 p4.2.next) [p6]).bind fun p7 =>
 some ((HV.fn (.func 61) [] [(.ptr (some (HA.cell0 p4.2.next)))]),p7))))))))
theorem snd {x0 : HP}  {p : (HV) × HS} (h : f x0 S = some p) : HC b w e 21 [(.ptr x0)] S (RR p.1 p.2) := by
 unfold f at h
 refine HCall.of_run at_.at_ body ?_
 show HR b w e 21 none [.code c0] ⟨[(.ptr x0),z,z,z,z,z,z,z,z,z,z,z],[]⟩ S _
 refine qT rfl rfl rfl (qS 2 rfl (Zxa · (.const fun _ => .nilFn)) (rE ?_))
 dsimp only [w0,w1,w2,w3]
 refine qQ rfl (qT rfl rfl rfl (uM 4 rfl rfl (qS 5 rfl (Zxt · tu25 (.tmp rfl) (.inl ⟨rfl,rfl⟩)) (rE ?_))))
 dsimp only [w0,w1,w2,w3]
 rcases ifc h with ⟨hc1,h⟩ | ⟨hc1,h⟩
 ·refine Zxb rfl (.tmp rfl) hc1 (qT rfl rfl rfl (qS 2 rfl (Zxa · (.func _)) (rE ?_)))
  cases h
  exact Zxl rfl at_.at_ rfl (res1 rfl rfl) ⟨rfl,rfl⟩
 ·obtain ⟨p2,hp2,p3,hp3,h⟩ := bd2 h
  refine Zxc rfl (.tmp rfl) (bfalse hc1) (Zxd rfl (qT rfl rfl rfl (uM 6 rfl rfl (uN 7 rfl rfl hp2 (uF 8 rfl Zab1 (by decide) rfl rfl (uL 9 rfl sc75 rfl rfl (Zx0 hp3) ?_))))))
  try dsimp only [w0,w1,w2,w3]
  obtain ⟨p4,hp4,h⟩ := bindo h
  refine uQ 10 rfl (.func _) (ev1 rfl) (HInv.static Y71.at_ Y71.body (Y71.snd  hp4)) ?_
  obtain ⟨p5,hp5,h⟩ := leto h
  obtain ⟨p6,hp6,p7,hp7,h⟩ := bd2 h
  refine qS 3 rfl (Zx9 · zi107 zr107 (by decide) rfl hp5) (qN rfl (Zafw · sz107 (.tmp rfl) rfl (.tmp rfl) hp6 hp7) (rE ?_))
  dsimp only [w0,w1,w2,w3]
  refine qT rfl rfl rfl (qS 11 rfl (Zzh · Evs.nil (ev1 rfl)) (uA 2 rfl rfl (rE ?_)))
  cases h
  exact Zxl rfl at_.at_ rfl (res1 rfl rfl) ⟨rfl,rfl⟩
end Y81
namespace Y77
theorem at_ : FnAt Tryz.prog 26 Tryz.f26 := ⟨Tryz.func26,by kernel_rfl⟩
def d0 := (Tryz.f26.body).getD .skip
def r1 := kT d0
def r3 := kT (kB d0)
def r6 := kT (kY (kB d0))
def r9 := kT (kY (kY (kB d0)))
def r13 := kT (kW (kB d0))
def c0 : Code := .seq (.region 0 r1 false) (.seq (.region 1 r3 false) (.seq (.seq (.region 2 r6 false) (.cond (.tmp 15) (.seq (.region 3 r9 false) .ret) .skip)) (.seq (.region 4 r13 false) .ret)))
theorem body : Tryz.f26.body = some c0 := by kernel_rfl
def f (D : Dp) (H : Hd) (k : Nat) (x0 : HP) (x1 : Int) (S : HS) : Option ((Int × Bool × Bool × Bool) × HS) :=
 (letv (HS.new S (.cells 3 [[(.int .i64 0),(.bool false),(.bool false)]] true)) fun p1 =>
 ((Y22.f D H k x0 x1 p1).bind fun p2 =>
 (if (!p2.1.2) = true then
 ((p2.2.sets (HA.cell0 S.next) [(.int .i64 0),(.bool false),(.bool false)]).bind fun p4 =>
 ((p4.ldI .i64 (HA.fld (HA.cell0 S.next) 0)).bind fun p5 =>
 ((p4.ldB (HA.fld (HA.cell0 S.next) 1)).bind fun p6 =>
 ((p4.ldB (HA.fld (HA.cell0 S.next) 2)).bind fun p7 =>
 some ((p5,p6,p7,false),p4))))) else
 (x0.bind fun p8 =>
 ((p2.2.ldSl (HA.fld p8 2)).bind fun p9 =>
 ((p2.2.idx p9 p2.1.1 3).bind fun p10 =>
 ((p2.2.ldI .i64 (HA.fld p10 0)).bind fun p11 =>
 ((p2.2.ldB (HA.fld p10 1)).bind fun p12 =>
 ((p2.2.ldB (HA.fld p10 2)).bind fun p13 =>
 ((p2.2.sets (HA.cell0 S.next) [(.int .i64 p11),(.bool p12),(.bool p13)]).bind fun p14 =>
 ((p14.ldI .i64 (HA.fld (HA.cell0 S.next) 0)).bind fun p15 =>
 ((p14.ldB (HA.fld (HA.cell0 S.next) 1)).bind fun p16 =>
 ((p14.ldB (HA.fld (HA.cell0 S.next) 2)).bind fun p17 =>
 some ((p15,p16,p17,true),p14))))))))))))))
theorem snd {x0 : HP} {x1 : Int} (hD : DS b w D) (hH : HT b w e H) {p : (Int × Bool × Bool × Bool) × HS} (h : f D H k x0 x1 S = some p) : HC b w e 26 [(.ptr x0),(.int .i64 x1)] S (RR (.tup [(.agg [(.int .i64 p.1.1),(.bool p.1.2.1),(.bool p.1.2.2.1)]),(.bool p.1.2.2.2)]) p.2) := by
 unfold f at h
 refine HCall.of_run at_.at_ body ?_
 show HR b w e 26 none [.code c0] ⟨[(.ptr x0),(.int .i64 x1),z,z,z,z,z,z,z,z,z,z,z,z,z,z,z,z,z,z,z,z,z,z],[]⟩ S _
 obtain ⟨p1,hp1,h⟩ := leto h
 refine qT rfl rfl rfl (qS 4 rfl (Zx9 · zi62 zr62 (by decide) rfl hp1) (qS 5 rfl (Zxa · (.bool _)) (rE ?_)))
 dsimp only [w0,w1,w2,w3]
 obtain ⟨p2,hp2,h⟩ := bindo h
 refine qT rfl rfl rfl (uM 9 rfl rfl (uM 10 rfl rfl (uQ 11 rfl (.func _) (ev2 rfl rfl) (HInv.static Y22.at_ Y22.body (Y22.snd hD hH hp2)) (uM 8 rfl rfl ?_))))
 try dsimp only [w0,w1,w2,w3]
 refine qS 12 rfl (Zxr · (.tmp rfl) rfl) (qS 13 rfl (Zxr · (.tmp rfl) rfl) (uA 6 rfl rfl (uA 7 rfl rfl (rE ?_))))
 dsimp only [w0,w1,w2,w3]
 refine qQ rfl (qT rfl rfl rfl (uM 14 rfl rfl (qS 15 rfl (Zys · (.tmp rfl)) (rE ?_))))
 dsimp only [w0,w1,w2,w3]
 rcases ifc h with ⟨hc3,h⟩ | ⟨hc3,h⟩
 ·obtain ⟨p4,hp4,h⟩ := bindo h
  refine Zxb rfl (.tmp rfl) hc3 (qT rfl rfl rfl (qS 16 rfl (Zy1 (is := []) (xs := []) (r := [(.int .i64 0),(.bool false),(.bool false)]) st62 · rfl rfl Evs.nil rfl) (qN rfl (Zxk (v := (.agg [(.int .i64 0),(.bool false),(.bool false)])) · sz62 (.tmp rfl) rfl (.tmp rfl) rfl hp4) (qS 5 rfl (Zxa · (.bool _)) (rE ?_)))))
  dsimp only [w0,w1,w2,w3]
  obtain ⟨p5,hp5,p6,hp6,p7,hp7,h⟩ := bd3 h
  cases h
  exact Zxl rfl at_.at_ rfl (resL (rs := [.cell 4 62,.tmp 5]) rfl (.cons (.agg (vs := [(.int .i64 p5),(.bool p6),(.bool p7)]) rfl rfl ia62 ⟨Zxq hp5,Zya hp6,Zya hp7,trivial⟩ (by simp)) (.cons (.tmp rfl) .nil)) (by simp)) ⟨rfl,rfl⟩
 ·obtain ⟨p8,hp8,p9,hp9,h⟩ := bd2 h
  refine Zxc rfl (.tmp rfl) (bfalse hc3) (Zxd rfl (qT rfl rfl rfl (uM 17 rfl rfl (uN 18 rfl rfl hp8 (uF 19 rfl Zaav (by decide) rfl rfl (uL 20 rfl sc87 rfl rfl (Zxj hp9) ?_))))))
  try dsimp only [w0,w1,w2,w3]
  obtain ⟨p10,hp10,p11,hp11,p12,hp12,p13,hp13,h⟩ := bd4 h
  obtain ⟨p14,hp14,h⟩ := bindo h
  refine uM 21 rfl rfl (qS 22 rfl (oX (s := p9) · tu87 sz62 rfl rfl hp10) (qS 23 rfl (Zyl (vs := [(.int .i64 p11),(.bool p12),(.bool p13)]) · ia62 (.tmp rfl) rfl ⟨Zxq hp11,Zya hp12,Zya hp13,trivial⟩ (by simp)) (qN rfl (Zxk (v := (.agg [(.int .i64 p11),(.bool p12),(.bool p13)])) · sz62 (.tmp rfl) rfl (.tmp rfl) rfl hp14) ?_)))
  try dsimp only [w0,w1,w2,w3]
  refine qS 5 rfl (Zxa · (.bool _)) (rE ?_)
  dsimp only [w0,w1,w2,w3]
  obtain ⟨p15,hp15,p16,hp16,p17,hp17,h⟩ := bd3 h
  cases h
  exact Zxl rfl at_.at_ rfl (resL (rs := [.cell 4 62,.tmp 5]) rfl (.cons (.agg (vs := [(.int .i64 p15),(.bool p16),(.bool p17)]) rfl rfl ia62 ⟨Zxq hp15,Zya hp16,Zya hp17,trivial⟩ (by simp)) (.cons (.tmp rfl) .nil)) (by simp)) ⟨rfl,rfl⟩
end Y77
namespace Y13
theorem at_ : FnAt Tryz.prog 35 Tryz.f35 := ⟨Tryz.func35,by kernel_rfl⟩
def d0 := (Tryz.f35.body).getD .skip
def r1 := kT d0
def r3 := kT (kB d0)
def r5 := kT (kW d0)
def d6 := kW (kB d0)
def r8 := kT (kA d6)
def r11 := kT (kY (kA d6))
def r16 := kT (kY d6)
def d17 := kZ (kB d6)
def r19 := kT (kA d17)
def d21 := kY (kA d17)
def r23 := kT (kA d21)
def r26 := kT (kY (kA d21))
def r30 := kT (kB d21)
def d32 := kY (kB d21)
def r33 := kT d32
def d36 := kX (kB d32)
def r38 := kT (kA d36)
def r45 := kT (kX (kB d36))
def r46 := kR (kZ (kY d36))
def r47 := kR (kW d36)
def r48 := kR (kW (kB d21))
def r50 := kT (kW d6)
def c51 : Code := .ret
def c48 : Code := .region 15 r48 false
def c36 : Code := .seq (.seq (.region 11 r38 false) (.cond (.tmp 58) .skip (.exit 2))) (.seq (.block 3 (.seq (.region 13 r45 false) (.region 14 r46 true))) (.region 12 r47 false))
def c29 : Code := .seq (.region 9 r30 true) (.seq (.seq (.region 10 r33 false) (.block 2 (.loop c36))) c48)
def c24 : Code := .cond (.tmp 22) (.seq (.region 8 r26 false) .ret) .skip
def c20 : Code := .block 1 (.seq (.seq (.region 7 r23 false) c24) c29)
def c19 : Code := .region 6 r19 false
def c0 : Code := .seq (.region 0 r1 false) (.seq (.region 1 r3 false) (.seq (.region 2 r5 false) (.seq (.seq (.region 3 r8 false) (.cond (.tmp 12) (.seq (.region 4 r11 false) .ret) .skip)) (.seq (.seq (.region 5 r16 false) (.block 0 (.rangeFunc (.tmp 13) #[14] c19 c20))) (.seq (.region 16 r50 false) c51)))))
theorem body : Tryz.f35.body = some c0 := by kernel_rfl
variable {y3 y4 y5 y6 y7 y14 : HP} {y22 y103 : Bool}
def L2 (D : Dp) (H : Hd) (k : Nat) (l : Nat) : Nat → HP → HP → HP → HP → Int → HS → Option (HV × HS)
 | 0,_,_,_,_,_,_ => none
 | n + 1,y3,y5,y6,y7,y8,S =>
  (y3.bind fun p65 =>
  ((S.ldSl p65).bind fun p66 =>
  (y5.bind fun p67 =>
  ((S.ldI .i64 p67).bind fun p68 =>
  ((S.idx p66 p68 1).bind fun p69 =>
  ((S.ldP p69).bind fun p70 =>
  (p70.bind fun p71 =>
  ((S.ldSl (HA.fld p71 2)).bind fun p72 =>
  (if y8 < (Sl.len p72 : Int) then
  (y3.bind fun p74 =>
  ((S.ldSl p74).bind fun p75 =>
  (y5.bind fun p76 =>
  ((S.ldI .i64 p76).bind fun p77 =>
  ((S.idx p75 p77 1).bind fun p78 =>
  ((S.ldP p78).bind fun p79 =>
  (p79.bind fun p80 =>
  ((S.ldSl (HA.fld p80 2)).bind fun p81 =>
  ((S.idx p81 y8 3).bind fun p82 =>
  ((S.ldI .i64 (HA.fld p82 0)).bind fun p83 =>
  ((Y77.f D H k y7 p83 S).bind fun p84 =>
  (letv (HS.new p84.2 (.cells 3 [[(.int .i64 0),(.bool false),(.bool false)]] true)) fun p85 =>
  ((p85.sets (HA.cell0 p84.2.next) [(.int .i64 p84.1.1),(.bool p84.1.2.1),(.bool p84.1.2.2.1)]).bind fun p86 =>
  (y6.bind fun p87 =>
  ((p86.ldB p87).bind fun p88 =>
  (if p88 = true then
  (if p84.1.2.2.2 = true then
  ((p86.ldI .i64 (HA.fld (HA.cell0 p84.2.next) 0)).bind fun p91 =>
  ((p86.ldB (HA.fld (HA.cell0 p84.2.next) 1)).bind fun p92 =>
  ((p86.ldB (HA.fld (HA.cell0 p84.2.next) 2)).bind fun p93 =>
  (y3.bind fun p94 =>
  ((p86.ldSl p94).bind fun p95 =>
  (y5.bind fun p96 =>
  ((p86.ldI .i64 p96).bind fun p97 =>
  ((p86.idx p95 p97 1).bind fun p98 =>
  ((p86.ldP p98).bind fun p99 =>
  (p99.bind fun p100 =>
  ((p86.ldSl (HA.fld p100 2)).bind fun p101 =>
  ((p86.idx p101 y8 3).bind fun p102 =>
  ((p86.ldI .i64 (HA.fld p102 0)).bind fun p103 =>
  ((p86.ldB (HA.fld p102 1)).bind fun p104 =>
  ((p86.ldB (HA.fld p102 2)).bind fun p105 =>
  ((Zz1 [(.int .i64 p91),(.bool p92),(.bool p93)] [(.int .i64 p103),(.bool p104),(.bool p105)]).bind fun p106 =>
  (y6.bind fun p107 =>
  ((p86.sets p107 [(.bool (p106))]).bind fun p108 =>
  (L2 D H k l n) y3 y5 y6 y7 (w64 (y8 + 1)) p108)))))))))))))))))) else
  (y6.bind fun p109 =>
  ((p86.sets p109 [(.bool false)]).bind fun p110 =>
  (L2 D H k l n) y3 y5 y6 y7 (w64 (y8 + 1)) p110))) else
  (y6.bind fun p111 =>
  ((p86.sets p111 [(.bool false)]).bind fun p112 =>
  (L2 D H k l n) y3 y5 y6 y7 (w64 (y8 + 1)) p112)))))))))))))))))) else
  (y5.bind fun p113 =>
  ((S.ldI .i64 p113).bind fun p114 =>
  (y5.bind fun p115 =>
  ((S.sets p115 [(.int .i64 (w64 (p114 + 1)))]).bind fun p116 =>
  (HS.endr p116 l none))))))))))))))
theorem Zajp {l : Nat} (hD : DS b w D) (hH : HT b w e H) : ∀ {n : Nat} ⦃y3 : HP⦄ ⦃y5 : HP⦄ ⦃y6 : HP⦄ ⦃y7 : HP⦄ ⦃y8 : Int⦄ ⦃S : HS⦄ ⦃p : HV × HS⦄ ⦃Ga j q F a G B M O K A C E I J L Q U V Z c d g r Kd Ke Kf Kg Kh Ki Kj Kk Kl Km Kn Ko Kp Kq Kr Ks Kt Ku Kv Kw Kx Ky Kz Ma Mb Mc Md Me Mf Mg Mh Mi Mj Mk Ml Mm Mn Mo Mp Mq Mr Ms Mt Mu Mv Mw Mx My Mz Na Nb Nc Nd Ne Nf Ng Nh Ni Nj Nk Nl Nm Nn No Np Nq Nr Ns Nt Nu Nv Nw Nx Ny Nz : HV⦄,L2 D H k l n y3 y5 y6 y7 y8 S = some p → HR b w e 35 (some l) [.inLoop c36,.inBlock 2,.code c48,.inBlock 1] ⟨[Ga,j,q,(.ptr y3),F,(.ptr y5),(.ptr y6),(.ptr y7),(.int .i64 y8),a,G,B,M,O,K,A,C,E,I,J,L,Q,U,V,Z,c,d,g,r,Kd,Ke,Kf,Kg,Kh,Ki,Kj,Kk,Kl,Km,Kn,Ko,Kp,Kq,Kr,Ks,Kt,Ku,Kv,Kw,Kx,Ky,Kz,Ma,Mb,Mc,Md,Me,Mf,Mg,Mh,Mi,Mj,Mk,Ml,Mm,Mn,Mo,Mp,Mq,Mr,Ms,Mt,Mu,Mv,Mw,Mx,My,Mz,Na,Nb,Nc,Nd,Ne,Nf,Ng,Nh,Ni,Nj,Nk,Nl,Nm,Nn,No,Np,Nq,Nr,Ns,Nt,Nu,Nv,Nw,Nx,Ny,Nz],[]⟩ S (RR p.1 p.2) := by
 intro n
 induction n with
 | zero => intro _ _ _ _ _ _ _ _ _ _ _ _ _ _ _ _ _ _ _ _ _ _ _ _ _ _ _ _ _ _ _ _ _ _ _ _ _ _ _ _ _ _ _ _ _ _ _ _ _ _ _ _ _ _ _ _ _ _ _ _ _ _ _ _ _ _ _ _ _ _ _ _ _ _ _ _ _ _ _ _ _ _ _ _ _ _ _ _ _ _ _ _ _ _ _ _ _ _ _ _ _ _ _ _ _ _ h; cases h
 | succ n ih =>
  intro y3 y5 y6 y7 y8 S p Ga j q F a G B M O K A C E I J L Q U V Z c d g r Kd Ke Kf Kg Kh Ki Kj Kk Kl Km Kn Ko Kp Kq Kr Ks Kt Ku Kv Kw Kx Ky Kz Ma Mb Mc Md Me Mf Mg Mh Mi Mj Mk Ml Mm Mn Mo Mp Mq Mr Ms Mt Mu Mv Mw Mx My Mz Na Nb Nc Nd Ne Nf Ng Nh Ni Nj Nk Nl Nm Nn No Np Nq Nr Ns Nt Nu Nv Nw Nx Ny Nz h
  simp only [L2] at h
  obtain ⟨p65,hp65,p66,hp66,p67,hp67,p68,hp68,h⟩ := bd4 h
  obtain ⟨p69,hp69,h⟩ := bindo h
  refine Zxz (qQ rfl (qT rfl rfl rfl (uM 49 rfl rfl (uL 50 rfl sc30 rfl hp65 (Zxj hp66) (uL 51 rfl sc3 rfl hp67 (Zxq hp68) (qS 52 rfl (oX (s := p66) · tu30 sz39 rfl rfl hp69) ?_))))))
  try dsimp only [w0,w1,w2,w3]
  obtain ⟨p70,hp70,p71,hp71,p72,hp72,h⟩ := bd3 h
  refine uL 53 rfl sc39 rfl rfl (Zx0 hp70) (uN 54 rfl rfl hp71 (uF 55 rfl Zaam (by decide) rfl rfl (uL 56 rfl sc87 rfl rfl (Zxj hp72) ?_)))
  try dsimp only [w0,w1,w2,w3]
  refine qS 57 rfl (Zxg (q := Sl.a p72) (n := Sl.len p72) (z := Sl.cap p72) · rfl tu87 (.tmp rfl)) (uB 58 rfl rfl rfl rfl (rE ?_))
  dsimp only [w0,w1,w2,w3]
  rcases ifc h with ⟨hc73,h⟩ | ⟨hc73,h⟩
  ·obtain ⟨p74,hp74,p75,hp75,p76,hp76,p77,hp77,h⟩ := bd4 h
   obtain ⟨p78,hp78,h⟩ := bindo h
   refine Zxb rfl (.tmp rfl) (decide_eq_true hc73) (Zxd rfl (qQ rfl (Zxo rfl (qT rfl rfl rfl (uM 62 rfl rfl (uL 63 rfl sc30 rfl hp74 (Zxj hp75) (uL 64 rfl sc3 rfl hp76 (Zxq hp77) (qS 65 rfl (oX (s := p75) · tu30 sz39 rfl rfl hp78) ?_))))))))
   try dsimp only [w0,w1,w2,w3]
   obtain ⟨p79,hp79,p80,hp80,p81,hp81,h⟩ := bd3 h
   refine uL 66 rfl sc39 rfl rfl (Zx0 hp79) (uN 67 rfl rfl hp80 (uF 68 rfl Zaam (by decide) rfl rfl (uL 69 rfl sc87 rfl rfl (Zxj hp81) ?_)))
   try dsimp only [w0,w1,w2,w3]
   obtain ⟨p82,hp82,p83,hp83,h⟩ := bd2 h
   refine uM 70 rfl rfl (qS 71 rfl (oX (s := p81) · tu87 sz62 rfl rfl hp82) (uF 72 rfl Zag7 (by decide) rfl rfl (uL 73 rfl sc3 rfl rfl (Zxq hp83) ?_)))
   try dsimp only [w0,w1,w2,w3]
   obtain ⟨p84,hp84,h⟩ := bindo h
   refine uQ 74 rfl (.func _) (ev2 rfl rfl) (HInv.static Y77.at_ Y77.body (Y77.snd hD hH hp84)) (uM 61 rfl rfl (qS 75 rfl (Zxr · (.tmp rfl) rfl) (qS 76 rfl (Zxr · (.tmp rfl) rfl) ?_)))
   try dsimp only [w0,w1,w2,w3]
   obtain ⟨p85,hp85,h⟩ := leto h
   obtain ⟨p86,hp86,h⟩ := bindo h
   refine qS 9 rfl (Zx9 · zi62 zr62 (by decide) rfl hp85) (qN rfl (Zxk (v := (.agg [(.int .i64 p84.1.1),(.bool p84.1.2.1),(.bool p84.1.2.2.1)])) · sz62 (.tmp rfl) rfl (.tmp rfl) rfl hp86) (uA 10 rfl rfl (rE ?_)))
   dsimp only [w0,w1,w2,w3]
   refine Zx8 (cls := [1,0,0,0,0,1,1,1,1,1,0,0,1,0,1,1,0,0,2]) (rk := [0,1,2,3,4,5,6,7,8,9,10,11,12,13,14,15,16,17,18]) rfl (by kernel_rfl) ?_
   obtain ⟨p87,hp87,p88,hp88,h⟩ := bd2 h
   refine yr 77 [6] rfl (oL · sc4 rfl hp87 (Zya hp88)) ?_
   refine yf 78 [77] rfl (oM · rfl) ?_
   rcases ifc h with ⟨hc89,h⟩ | ⟨hc89,h⟩
   ·refine yfg 79 78 [10,78] rfl hc89 (oM · rfl) ?_
    refine yf 80 [78,79] rfl (Zxh · (.tmp rfl) hc89 (.tmp rfl)) ?_
    try dsimp only [w0,w1,w2,w3]
    refine yf 81 [80] rfl (oM · rfl) ?_
    rcases ifc h with ⟨hc90,h⟩ | ⟨hc90,h⟩
    ·obtain ⟨p91,hp91,p92,hp92,p93,hp93,h⟩ := bd3 h
     refine yrg 82 81 [9,81] rfl hc90 (Zyl (vs := [(.int .i64 p91),(.bool p92),(.bool p93)]) · ia62 (.tmp rfl) rfl ⟨Zxq hp91,Zya hp92,Zya hp93,trivial⟩ (by simp)) ?_
     obtain ⟨p94,hp94,p95,hp95,h⟩ := bd2 h
     refine yrg 83 81 [3,81] rfl hc90 (oL · sc30 rfl hp94 (Zxj hp95)) ?_
     obtain ⟨p96,hp96,p97,hp97,h⟩ := bd2 h
     refine yrg 84 81 [5,81] rfl hc90 (oL · sc3 rfl hp96 (Zxq hp97)) ?_
     try dsimp only [w0,w1,w2,w3]
     obtain ⟨p98,hp98,h⟩ := bindo h
     refine yrg 85 81 [83,84,81] rfl hc90 (oX (s := p95) · tu30 sz39 rfl rfl hp98) ?_
     obtain ⟨p99,hp99,h⟩ := bindo h
     refine yrg 86 81 [85,81] rfl hc90 (oL · sc39 rfl rfl (Zx0 hp99)) ?_
     obtain ⟨p100,hp100,h⟩ := bindo h
     refine yfg 87 81 [86,81] rfl hc90 (oN · rfl hp100) ?_
     refine yfg 88 81 [87,81] rfl hc90 (oF · Zaam (by decide) rfl rfl) ?_
     try dsimp only [w0,w1,w2,w3]
     obtain ⟨p101,hp101,h⟩ := bindo h
     refine yrg 89 81 [88,81] rfl hc90 (oL · sc87 rfl rfl (Zxj hp101)) ?_
     refine yfg 90 81 [8,81] rfl hc90 (oM · rfl) ?_
     obtain ⟨p102,hp102,h⟩ := bindo h
     refine yrg 91 81 [89,90,81] rfl hc90 (oX (s := p101) · tu87 sz62 rfl rfl hp102) ?_
     obtain ⟨p103,hp103,p104,hp104,p105,hp105,h⟩ := bd3 h
     refine yrg 92 81 [91,81] rfl hc90 (Zyl (vs := [(.int .i64 p103),(.bool p104),(.bool p105)]) · ia62 (.tmp rfl) rfl ⟨Zxq hp103,Zya hp104,Zya hp105,trivial⟩ (by simp)) ?_
     try dsimp only [w0,w1,w2,w3]
     obtain ⟨p106,hp106,h⟩ := bindo h
     refine yfg 93 81 [82,92,81] rfl hc90 (Zai0 · sk62 eg62 rfl (.tmp rfl) (.tmp rfl) hp106 (.inl ⟨rfl,rfl⟩)) ?_
     refine yf 94 [81,93] rfl (Zxh · (.tmp rfl) hc90 (.tmp rfl)) ?_
     obtain ⟨p107,hp107,p108,hp108,h⟩ := bd2 h
     refine x_go (e_op (dst := none) (ts := [6,94]) rfl (by intro _ _ h; cases h) (by kernel_rfl) (fun _ ho => Zxk (v := (.bool (p106))) ho sz4 (.tmp rfl) hp107 (.tmp rfl) rfl hp108)) rfl ?_
     refine Zx5 rfl ?_
     refine rE ?_
     try dsimp only [w0,w1,w2,w3]
     refine Zxf (qR rfl rfl (uM 59 rfl rfl (uC 60 rfl rfl rfl (uA 8 rfl rfl (rE ?_)))))
     dsimp only [w0,w1,w2,w3]
     exact ih h
    ·refine yrs 82 81 [9,81] rfl (bfalse hc90) ?_
     refine yrs 83 81 [3,81] rfl (bfalse hc90) ?_
     refine yrs 84 81 [5,81] rfl (bfalse hc90) ?_
     try dsimp only [w0,w1,w2,w3]
     refine yrs 85 81 [83,84,81] rfl (bfalse hc90) ?_
     refine yrs 86 81 [85,81] rfl (bfalse hc90) ?_
     refine yfs 87 81 [86,81] rfl (bfalse hc90) ?_
     refine yfs 88 81 [87,81] rfl (bfalse hc90) ?_
     try dsimp only [w0,w1,w2,w3]
     refine yrs 89 81 [88,81] rfl (bfalse hc90) ?_
     refine yfs 90 81 [8,81] rfl (bfalse hc90) ?_
     refine yrs 91 81 [89,90,81] rfl (bfalse hc90) ?_
     refine yrs 92 81 [91,81] rfl (bfalse hc90) ?_
     try dsimp only [w0,w1,w2,w3]
     refine yfs 93 81 [82,92,81] rfl (bfalse hc90) ?_
     refine yf 94 [81,93] rfl (Zxm · (.tmp rfl) (bfalse hc90) (.bool _)) ?_
     obtain ⟨p109,hp109,p110,hp110,h⟩ := bd2 h
     refine x_go (e_op (dst := none) (ts := [6,94]) rfl (by intro _ _ h; cases h) (by kernel_rfl) (fun _ ho => Zxk (v := (.bool false)) ho sz4 (.tmp rfl) hp109 (.tmp rfl) rfl hp110)) rfl ?_
     refine Zx5 rfl ?_
     refine rE ?_
     try dsimp only [w0,w1,w2,w3]
     refine Zxf (qR rfl rfl (uM 59 rfl rfl (uC 60 rfl rfl rfl (uA 8 rfl rfl (rE ?_)))))
     dsimp only [w0,w1,w2,w3]
     exact ih h
   ·refine yfs 79 78 [10,78] rfl (bfalse hc89) ?_
    refine yf 80 [78,79] rfl (Zxm · (.tmp rfl) (bfalse hc89) (.bool _)) ?_
    try dsimp only [w0,w1,w2,w3]
    refine yf 81 [80] rfl (oM · rfl) ?_
    refine yrs 82 81 [9,81] rfl rfl ?_
    refine yrs 83 81 [3,81] rfl rfl ?_
    refine yrs 84 81 [5,81] rfl rfl ?_
    try dsimp only [w0,w1,w2,w3]
    refine yrs 85 81 [83,84,81] rfl rfl ?_
    refine yrs 86 81 [85,81] rfl rfl ?_
    refine yfs 87 81 [86,81] rfl rfl ?_
    refine yfs 88 81 [87,81] rfl rfl ?_
    try dsimp only [w0,w1,w2,w3]
    refine yrs 89 81 [88,81] rfl rfl ?_
    refine yfs 90 81 [8,81] rfl rfl ?_
    refine yrs 91 81 [89,90,81] rfl rfl ?_
    refine yrs 92 81 [91,81] rfl rfl ?_
    try dsimp only [w0,w1,w2,w3]
    refine yfs 93 81 [82,92,81] rfl rfl ?_
    refine yf 94 [81,93] rfl (Zxm · (.tmp rfl) rfl (.bool _)) ?_
    obtain ⟨p111,hp111,p112,hp112,h⟩ := bd2 h
    refine x_go (e_op (dst := none) (ts := [6,94]) rfl (by intro _ _ h; cases h) (by kernel_rfl) (fun _ ho => Zxk (v := (.bool false)) ho sz4 (.tmp rfl) hp111 (.tmp rfl) rfl hp112)) rfl ?_
    refine Zx5 rfl ?_
    refine rE ?_
    try dsimp only [w0,w1,w2,w3]
    refine Zxf (qR rfl rfl (uM 59 rfl rfl (uC 60 rfl rfl rfl (uA 8 rfl rfl (rE ?_)))))
    dsimp only [w0,w1,w2,w3]
    exact ih h
  ·obtain ⟨p113,hp113,p114,hp114,p115,hp115,p116,hp116,h⟩ := bd4 h
   refine Zxc rfl (.tmp rfl) (decide_eq_false hc73) (Zyh rfl rfl (qR rfl rfl (uL 95 rfl sc3 rfl hp113 (Zxq hp114) (uC 96 rfl rfl rfl (qN rfl (Zxk (v := (.int .i64 (w64 (p114 + 1)))) · sz3 (.tmp rfl) hp115 (.tmp rfl) rfl hp116) (rE ?_))))))
   dsimp only [w0,w1,w2,w3]
   refine Zxf ?_
   exact Zy6 h ⟨rfl,rfl⟩
def J1 (D : Dp) (H : Hd) (k : Nat) (l : Nat) (y3 : HP) (y4 : HP) (y5 : HP) (y6 : HP) (y7 : HP) (y22 : Bool) (S : HS) : Option (HV × HS) :=
 (if y22 = true then
 (y4.bind fun p19 =>
 ((S.sets p19 [(.bool false)]).bind fun p20 =>
 (HS.endr p20 l (some .ret)))) else
 (y6.bind fun p21 =>
 ((S.ldB p21).bind fun p22 =>
 (if p22 = true then
 ((Y6.f y7 S).bind fun p24 =>
 (y3.bind fun p25 =>
 ((p24.2.ldSl p25).bind fun p26 =>
 ((S.ldSl p25).bind fun p27 =>
 (if p27 = p26 then
 (y5.bind fun p29 =>
 ((p24.2.ldI .i64 p29).bind fun p30 =>
 ((S.ldI .i64 p29).bind fun p31 =>
 (if p31 = p30 then
 ((p24.2.idx p26 p30 1).bind fun p33 =>
 ((S.idx p26 p30 1).bind fun p34 =>
 (if p34 = p33 then
 ((p24.2.ldP p33).bind fun p36 =>
 ((S.ldP p33).bind fun p37 =>
 (if p37 = p36 then
 (p36.bind fun p39 =>
 ((p24.2.ldS (HA.fld p39 0)).bind fun p40 =>
 ((S.ldS (HA.fld p39 0)).bind fun p41 =>
 (if p41 = p40 then
 (if p24.1 = p40 then
 ((Y31.f y7 p24.2).bind fun p44 =>
 (y3.bind fun p45 =>
 ((p44.2.ldSl p45).bind fun p46 =>
 ((p24.2.ldSl p45).bind fun p47 =>
 (if p47 = p46 then
 (y5.bind fun p49 =>
 ((p44.2.ldI .i64 p49).bind fun p50 =>
 ((p24.2.ldI .i64 p49).bind fun p51 =>
 (if p51 = p50 then
 ((p44.2.idx p46 p50 1).bind fun p53 =>
 ((p24.2.idx p46 p50 1).bind fun p54 =>
 (if p54 = p53 then
 ((p44.2.ldP p53).bind fun p56 =>
 ((p24.2.ldP p53).bind fun p57 =>
 (if p57 = p56 then
 (p56.bind fun p59 =>
 ((p44.2.ldSl (HA.fld p59 2)).bind fun p60 =>
 ((p24.2.ldSl (HA.fld p59 2)).bind fun p61 =>
 (if p61 = p60 then
 (y6.bind fun p63 =>
 ((p44.2.sets p63 [(.bool (decide (p44.1 = (Sl.len p60 : Int))))]).bind fun p64 =>
 L2 D H k l k y3 y5 y6 y7 0 p64)) else none)))) else none))) else none))) else none)))) else none))))) else
 (y6.bind fun p117 =>
 ((p24.2.sets p117 [(.bool false)]).bind fun p118 =>
 L2 D H k l k y3 y5 y6 y7 0 p118))) else none)))) else none))) else none))) else none)))) else none))))) else
 (y6.bind fun p119 =>
 ((S.sets p119 [(.bool false)]).bind fun p120 =>
 L2 D H k l k y3 y5 y6 y7 0 p120))))))
theorem J1_snd {l : Nat} (hD : DS b w D) (hH : HT b w e H) {p : HV × HS} (h : J1 D H k l y3 y4 y5 y6 y7 y22 S = some p) : HR b w e 35 (some l) [.code c24,.code c29,.inBlock 1] ⟨[Ga,j,q,(.ptr y3),(.ptr y4),(.ptr y5),(.ptr y6),(.ptr y7),i,a,G,B,M,O,K,A,C,E,I,J,L,Q,(.bool y22),V,Z,c,d,g,r,Kd,Ke,Kf,Kg,Kh,Ki,Kj,Kk,Kl,Km,Kn,Ko,Kp,Kq,Kr,Ks,Kt,Ku,Kv,Kw,Kx,Ky,Kz,Ma,Mb,Mc,Md,Me,Mf,Mg,Mh,Mi,Mj,Mk,Ml,Mm,Mn,Mo,Mp,Mq,Mr,Ms,Mt,Mu,Mv,Mw,Mx,My,Mz,Na,Nb,Nc,Nd,Ne,Nf,Ng,Nh,Ni,Nj,Nk,Nl,Nm,Nn,No,Np,Nq,Nr,Ns,Nt,Nu,Nv,Nw,Nx,Ny,Nz],[]⟩ S (RR p.1 p.2) := by
 unfold J1 at h
 rcases ifc h with ⟨hc18,h⟩ | ⟨hc18,h⟩
 ·obtain ⟨p19,hp19,p20,hp20,h⟩ := bd2 h
  refine Zxb rfl (.tmp rfl) hc18 (qT rfl rfl rfl (qN rfl (Zxk (v := (.bool false)) · sz4 (.tmp rfl) hp19 (.bool _) rfl hp20) (rE ?_)))
  try dsimp only [w0,w1,w2,w3]
  exact Zaab rfl h ⟨rfl,rfl⟩
 ·refine Zxc rfl (.tmp rfl) (bfalse hc18) (Zxd rfl (qQ rfl ?_))
  refine Zx8 (cls := [1,0,0,2,3,3,3,3,0,0,3,0,0,0,0,2,3,3,3,3,0,0,3,0,0,0,2]) (rk := [0,1,2,3,4,5,6,7,8,9,10,11,12,13,14,15,16,17,18,19,20,21,22,23,24,25,26]) rfl (by kernel_rfl) ?_
  obtain ⟨p21,hp21,p22,hp22,h⟩ := bd2 h
  refine xr 23 [6] rfl (oL · sc4 rfl hp21 (Zya hp22)) ?_
  refine xf 24 [23] rfl (oM · rfl) ?_
  rcases ifc h with ⟨hc23,h⟩ | ⟨hc23,h⟩
  ·refine xfg 25 24 [7,24] rfl hc23 (oM · rfl) ?_
   obtain ⟨p24,hp24,h⟩ := bindo h
   refine Zzc (Zyu (dst := some 26) (t := 24) (ts := [25,24]) rfl (by kernel_rfl) rfl rfl hc23 (.func _) (ev1 rfl) (HInv.static Y6.at_ Y6.body (Y6.snd  hp24))) rfl trivial ?_
   try dsimp only [w0,w1,w2,w3]
   obtain ⟨p25,hp25,p26,hp26,p27,hp27,h⟩ := bd3 h
   obtain ⟨hg28,h⟩ := gd h
   refine Zx3 (Zzu (dst := some 27) (t := 24) (ts := [3,24]) rfl (by intro _ _ h; cases h) (by kernel_rfl) rfl rfl hc23 (fun _ ho => Zxs ho sc30 (.tmp rfl) hp25 (Zxj hp26))) rfl ⟨.inr (Zzz (dst := some 27) (t := 24) (ts := [3,24]) rfl (by intro _ _ h; cases h) (by kernel_rfl) rfl rfl hc23 (fun _ ho => Zxs ho sc30 (.tmp rfl) hp25 (Zxj (hp27.trans (congrArg some hg28))))),trivial⟩ ?_
   obtain ⟨p29,hp29,p30,hp30,p31,hp31,h⟩ := bd3 h
   obtain ⟨hg32,h⟩ := gd h
   refine Zx3 (Zzu (dst := some 28) (t := 24) (ts := [5,24]) rfl (by intro _ _ h; cases h) (by kernel_rfl) rfl rfl hc23 (fun _ ho => Zxs ho sc3 (.tmp rfl) hp29 (Zxq hp30))) rfl ⟨.inr (Zzz (dst := some 28) (t := 24) (ts := [5,24]) rfl (by intro _ _ h; cases h) (by kernel_rfl) rfl rfl hc23 (fun _ ho => Zxs ho sc3 (.tmp rfl) hp29 (Zxq (hp31.trans (congrArg some hg32))))),trivial⟩ ?_
   obtain ⟨p33,hp33,p34,hp34,h⟩ := bd2 h
   obtain ⟨hg35,h⟩ := gd h
   refine Zx3 (Zzu (dst := some 29) (t := 24) (ts := [27,28,24]) rfl (by intro _ _ h; cases h) (by kernel_rfl) rfl rfl hc23 (fun _ ho => Zyq (s := p26) ho tu30 sz39 (.tmp rfl) (.tmp rfl) hp33)) rfl ⟨.inr (Zzz (dst := some 29) (t := 24) (ts := [27,28,24]) rfl (by intro _ _ h; cases h) (by kernel_rfl) rfl rfl hc23 (fun _ ho => Zyq (s := p26) ho tu30 sz39 (.tmp rfl) (.tmp rfl) (hp34.trans (congrArg some hg35)))),trivial⟩ ?_
   obtain ⟨p36,hp36,p37,hp37,h⟩ := bd2 h
   obtain ⟨hg38,h⟩ := gd h
   refine Zx3 (Zzu (dst := some 30) (t := 24) (ts := [29,24]) rfl (by intro _ _ h; cases h) (by kernel_rfl) rfl rfl hc23 (fun _ ho => Zxs ho sc39 (.tmp rfl) rfl (Zx0 hp36))) rfl ⟨.inr (Zzz (dst := some 30) (t := 24) (ts := [29,24]) rfl (by intro _ _ h; cases h) (by kernel_rfl) rfl rfl hc23 (fun _ ho => Zxs ho sc39 (.tmp rfl) rfl (Zx0 (hp37.trans (congrArg some hg38))))),trivial⟩ ?_
   try dsimp only [w0,w1,w2,w3]
   obtain ⟨p39,hp39,h⟩ := bindo h
   refine xfg 31 24 [30,24] rfl hc23 (oN · rfl hp39) ?_
   refine xfg 32 24 [31,24] rfl hc23 (oF · Zadk (by decide) rfl rfl) ?_
   obtain ⟨p40,hp40,p41,hp41,h⟩ := bd2 h
   obtain ⟨hg42,h⟩ := gd h
   refine Zx3 (Zzu (dst := some 33) (t := 24) (ts := [32,24]) rfl (by intro _ _ h; cases h) (by kernel_rfl) rfl rfl hc23 (fun _ ho => Zxs ho sc9 (.tmp rfl) rfl (Zx4 hp40))) rfl ⟨.inr (Zzz (dst := some 33) (t := 24) (ts := [32,24]) rfl (by intro _ _ h; cases h) (by kernel_rfl) rfl rfl hc23 (fun _ ho => Zxs ho sc9 (.tmp rfl) rfl (Zx4 (hp41.trans (congrArg some hg42))))),trivial⟩ ?_
   refine xfg 34 24 [26,33,24] rfl hc23 (Zzw · (.tmp rfl) (.tmp rfl) rfl) ?_
   try dsimp only [w0,w1,w2,w3]
   refine xf 35 [24,34] rfl (Zxh · (.tmp rfl) hc23 (.tmp rfl)) ?_
   refine xf 36 [35] rfl (oM · rfl) ?_
   rcases ifc h with ⟨hc43,h⟩ | ⟨hc43,h⟩
   ·refine xfg 37 36 [7,36] rfl (decide_eq_true hc43) (oM · rfl) ?_
    obtain ⟨p44,hp44,h⟩ := bindo h
    refine Zzc (Zyu (dst := some 38) (t := 36) (ts := [37,36]) rfl (by kernel_rfl) rfl rfl (decide_eq_true hc43) (.func _) (ev1 rfl) (HInv.static Y31.at_ Y31.body (Y31.snd  hp44))) rfl ⟨.inl (by kernel_rfl),.inl (by kernel_rfl),.inl (by kernel_rfl),.inl (by kernel_rfl),.inl (by kernel_rfl),trivial⟩ ?_
    try dsimp only [w0,w1,w2,w3]
    obtain ⟨p45,hp45,p46,hp46,p47,hp47,h⟩ := bd3 h
    obtain ⟨hg48,h⟩ := gd h
    refine Zx3 (Zzu (dst := some 39) (t := 36) (ts := [3,36]) rfl (by intro _ _ h; cases h) (by kernel_rfl) rfl rfl (decide_eq_true hc43) (fun _ ho => Zxs ho sc30 (.tmp rfl) hp45 (Zxj hp46))) rfl ⟨.inr (Zzz (dst := some 39) (t := 36) (ts := [3,36]) rfl (by intro _ _ h; cases h) (by kernel_rfl) rfl rfl (decide_eq_true hc43) (fun _ ho => Zxs ho sc30 (.tmp rfl) hp45 (Zxj (hp47.trans (congrArg some hg48))))),.inl (by kernel_rfl),trivial⟩ ?_
    obtain ⟨p49,hp49,p50,hp50,p51,hp51,h⟩ := bd3 h
    obtain ⟨hg52,h⟩ := gd h
    refine Zx3 (Zzu (dst := some 40) (t := 36) (ts := [5,36]) rfl (by intro _ _ h; cases h) (by kernel_rfl) rfl rfl (decide_eq_true hc43) (fun _ ho => Zxs ho sc3 (.tmp rfl) hp49 (Zxq hp50))) rfl ⟨.inr (Zzz (dst := some 40) (t := 36) (ts := [5,36]) rfl (by intro _ _ h; cases h) (by kernel_rfl) rfl rfl (decide_eq_true hc43) (fun _ ho => Zxs ho sc3 (.tmp rfl) hp49 (Zxq (hp51.trans (congrArg some hg52))))),.inl (by kernel_rfl),trivial⟩ ?_
    obtain ⟨p53,hp53,p54,hp54,h⟩ := bd2 h
    obtain ⟨hg55,h⟩ := gd h
    refine Zx3 (Zzu (dst := some 41) (t := 36) (ts := [39,40,36]) rfl (by intro _ _ h; cases h) (by kernel_rfl) rfl rfl (decide_eq_true hc43) (fun _ ho => Zyq (s := p46) ho tu30 sz39 (.tmp rfl) (.tmp rfl) hp53)) rfl ⟨.inr (Zzz (dst := some 41) (t := 36) (ts := [39,40,36]) rfl (by intro _ _ h; cases h) (by kernel_rfl) rfl rfl (decide_eq_true hc43) (fun _ ho => Zyq (s := p46) ho tu30 sz39 (.tmp rfl) (.tmp rfl) (hp54.trans (congrArg some hg55)))),.inl (by kernel_rfl),trivial⟩ ?_
    obtain ⟨p56,hp56,p57,hp57,h⟩ := bd2 h
    obtain ⟨hg58,h⟩ := gd h
    refine Zx3 (Zzu (dst := some 42) (t := 36) (ts := [41,36]) rfl (by intro _ _ h; cases h) (by kernel_rfl) rfl rfl (decide_eq_true hc43) (fun _ ho => Zxs ho sc39 (.tmp rfl) rfl (Zx0 hp56))) rfl ⟨.inr (Zzz (dst := some 42) (t := 36) (ts := [41,36]) rfl (by intro _ _ h; cases h) (by kernel_rfl) rfl rfl (decide_eq_true hc43) (fun _ ho => Zxs ho sc39 (.tmp rfl) rfl (Zx0 (hp57.trans (congrArg some hg58))))),.inl (by kernel_rfl),trivial⟩ ?_
    try dsimp only [w0,w1,w2,w3]
    obtain ⟨p59,hp59,h⟩ := bindo h
    refine xfg 43 36 [42,36] rfl (decide_eq_true hc43) (oN · rfl hp59) ?_
    refine xfg 44 36 [43,36] rfl (decide_eq_true hc43) (oF · Zaam (by decide) rfl rfl) ?_
    obtain ⟨p60,hp60,p61,hp61,h⟩ := bd2 h
    obtain ⟨hg62,h⟩ := gd h
    refine Zx3 (Zzu (dst := some 45) (t := 36) (ts := [44,36]) rfl (by intro _ _ h; cases h) (by kernel_rfl) rfl rfl (decide_eq_true hc43) (fun _ ho => Zxs ho sc87 (.tmp rfl) rfl (Zxj hp60))) rfl ⟨.inr (Zzz (dst := some 45) (t := 36) (ts := [44,36]) rfl (by intro _ _ h; cases h) (by kernel_rfl) rfl rfl (decide_eq_true hc43) (fun _ ho => Zxs ho sc87 (.tmp rfl) rfl (Zxj (hp61.trans (congrArg some hg62))))),.inl (by kernel_rfl),trivial⟩ ?_
    refine xfg 46 36 [45,36] rfl (decide_eq_true hc43) (Zxg (q := Sl.a p60) (n := Sl.len p60) (z := Sl.cap p60) · rfl tu87 (.tmp rfl)) ?_
    try dsimp only [w0,w1,w2,w3]
    refine xfg 47 36 [38,46,36] rfl (decide_eq_true hc43) (oB · rfl rfl rfl) ?_
    refine xf 48 [36,47] rfl (Zxh · (.tmp rfl) (decide_eq_true hc43) (.tmp rfl)) ?_
    obtain ⟨p63,hp63,p64,hp64,h⟩ := bd2 h
    refine Zzc (e_op (dst := none) (ts := [6,48]) rfl (by intro _ _ h; cases h) (by kernel_rfl) (fun _ ho => Zxk (v := (.bool (decide (p44.1 = (Sl.len p60 : Int))))) ho sz4 (.tmp rfl) hp63 (.tmp rfl) rfl hp64)) rfl ⟨.inl (by kernel_rfl),.inl (by kernel_rfl),.inl (by kernel_rfl),.inl (by kernel_rfl),.inl (by kernel_rfl),.inl (by kernel_rfl),.inl (by kernel_rfl),.inl (by kernel_rfl),.inl (by kernel_rfl),.inl (by kernel_rfl),trivial⟩ ?_
    refine Zx5 rfl ?_
    refine rE ?_
    try dsimp only [w0,w1,w2,w3]
    refine qQ rfl (qT rfl rfl rfl (qS 8 rfl (Zxa · (.int _ _)) (rE ?_)))
    dsimp only [w0,w1,w2,w3]
    refine Zxo rfl (Zye rfl ?_)
    try dsimp only [w0,w1,w2,w3]
    exact Zajp hD hH h
   ·refine xfs 37 36 [7,36] rfl (decide_eq_false hc43) ?_
    refine zes 38 36 [37,36] rfl (decide_eq_false hc43) ⟨.inl (by kernel_rfl),.inl (by kernel_rfl),.inl (by kernel_rfl),.inl (by kernel_rfl),.inl (by kernel_rfl),trivial⟩ ?_
    try dsimp only [w0,w1,w2,w3]
    refine Zx3 (Zyt (dst := some 39) (t := 36) (ts := [3,36]) rfl (by kernel_rfl) rfl rfl (decide_eq_false hc43)) rfl ⟨.inr (Zyz (dst := some 39) (t := 36) (ts := [3,36]) rfl (by kernel_rfl) rfl rfl (decide_eq_false hc43)),.inl (by kernel_rfl),trivial⟩ ?_
    refine Zx3 (Zyt (dst := some 40) (t := 36) (ts := [5,36]) rfl (by kernel_rfl) rfl rfl (decide_eq_false hc43)) rfl ⟨.inr (Zyz (dst := some 40) (t := 36) (ts := [5,36]) rfl (by kernel_rfl) rfl rfl (decide_eq_false hc43)),.inl (by kernel_rfl),trivial⟩ ?_
    refine Zx3 (Zyt (dst := some 41) (t := 36) (ts := [39,40,36]) rfl (by kernel_rfl) rfl rfl (decide_eq_false hc43)) rfl ⟨.inr (Zyz (dst := some 41) (t := 36) (ts := [39,40,36]) rfl (by kernel_rfl) rfl rfl (decide_eq_false hc43)),.inl (by kernel_rfl),trivial⟩ ?_
    refine Zx3 (Zyt (dst := some 42) (t := 36) (ts := [41,36]) rfl (by kernel_rfl) rfl rfl (decide_eq_false hc43)) rfl ⟨.inr (Zyz (dst := some 42) (t := 36) (ts := [41,36]) rfl (by kernel_rfl) rfl rfl (decide_eq_false hc43)),.inl (by kernel_rfl),trivial⟩ ?_
    try dsimp only [w0,w1,w2,w3]
    refine xfs 43 36 [42,36] rfl (decide_eq_false hc43) ?_
    refine xfs 44 36 [43,36] rfl (decide_eq_false hc43) ?_
    refine Zx3 (Zyt (dst := some 45) (t := 36) (ts := [44,36]) rfl (by kernel_rfl) rfl rfl (decide_eq_false hc43)) rfl ⟨.inr (Zyz (dst := some 45) (t := 36) (ts := [44,36]) rfl (by kernel_rfl) rfl rfl (decide_eq_false hc43)),.inl (by kernel_rfl),trivial⟩ ?_
    refine xfs 46 36 [45,36] rfl (decide_eq_false hc43) ?_
    try dsimp only [w0,w1,w2,w3]
    refine xfs 47 36 [38,46,36] rfl (decide_eq_false hc43) ?_
    refine xf 48 [36,47] rfl (Zxm · (.tmp rfl) (decide_eq_false hc43) (.bool _)) ?_
    obtain ⟨p117,hp117,p118,hp118,h⟩ := bd2 h
    refine Zzc (e_op (dst := none) (ts := [6,48]) rfl (by intro _ _ h; cases h) (by kernel_rfl) (fun _ ho => Zxk (v := (.bool false)) ho sz4 (.tmp rfl) hp117 (.tmp rfl) rfl hp118)) rfl ⟨.inl (by kernel_rfl),.inl (by kernel_rfl),.inl (by kernel_rfl),.inl (by kernel_rfl),.inl (by kernel_rfl),.inl (by kernel_rfl),.inl (by kernel_rfl),.inl (by kernel_rfl),.inl (by kernel_rfl),.inl (by kernel_rfl),trivial⟩ ?_
    refine Zx5 rfl ?_
    refine rE ?_
    try dsimp only [w0,w1,w2,w3]
    refine qQ rfl (qT rfl rfl rfl (qS 8 rfl (Zxa · (.int _ _)) (rE ?_)))
    dsimp only [w0,w1,w2,w3]
    refine Zxo rfl (Zye rfl ?_)
    try dsimp only [w0,w1,w2,w3]
    exact Zajp hD hH h
  ·refine xfs 25 24 [7,24] rfl (bfalse hc23) ?_
   refine zes 26 24 [25,24] rfl (bfalse hc23) trivial ?_
   try dsimp only [w0,w1,w2,w3]
   refine Zx3 (Zyt (dst := some 27) (t := 24) (ts := [3,24]) rfl (by kernel_rfl) rfl rfl (bfalse hc23)) rfl ⟨.inr (Zyz (dst := some 27) (t := 24) (ts := [3,24]) rfl (by kernel_rfl) rfl rfl (bfalse hc23)),trivial⟩ ?_
   refine Zx3 (Zyt (dst := some 28) (t := 24) (ts := [5,24]) rfl (by kernel_rfl) rfl rfl (bfalse hc23)) rfl ⟨.inr (Zyz (dst := some 28) (t := 24) (ts := [5,24]) rfl (by kernel_rfl) rfl rfl (bfalse hc23)),trivial⟩ ?_
   refine Zx3 (Zyt (dst := some 29) (t := 24) (ts := [27,28,24]) rfl (by kernel_rfl) rfl rfl (bfalse hc23)) rfl ⟨.inr (Zyz (dst := some 29) (t := 24) (ts := [27,28,24]) rfl (by kernel_rfl) rfl rfl (bfalse hc23)),trivial⟩ ?_
   refine Zx3 (Zyt (dst := some 30) (t := 24) (ts := [29,24]) rfl (by kernel_rfl) rfl rfl (bfalse hc23)) rfl ⟨.inr (Zyz (dst := some 30) (t := 24) (ts := [29,24]) rfl (by kernel_rfl) rfl rfl (bfalse hc23)),trivial⟩ ?_
   try dsimp only [w0,w1,w2,w3]
   refine xfs 31 24 [30,24] rfl (bfalse hc23) ?_
   refine xfs 32 24 [31,24] rfl (bfalse hc23) ?_
   refine Zx3 (Zyt (dst := some 33) (t := 24) (ts := [32,24]) rfl (by kernel_rfl) rfl rfl (bfalse hc23)) rfl ⟨.inr (Zyz (dst := some 33) (t := 24) (ts := [32,24]) rfl (by kernel_rfl) rfl rfl (bfalse hc23)),trivial⟩ ?_
   refine xfs 34 24 [26,33,24] rfl (bfalse hc23) ?_
   try dsimp only [w0,w1,w2,w3]
   refine xf 35 [24,34] rfl (Zxm · (.tmp rfl) (bfalse hc23) (.bool _)) ?_
   refine xf 36 [35] rfl (oM · rfl) ?_
   refine xfs 37 36 [7,36] rfl rfl ?_
   refine zes 38 36 [37,36] rfl rfl ⟨.inl (by kernel_rfl),.inl (by kernel_rfl),.inl (by kernel_rfl),.inl (by kernel_rfl),.inl (by kernel_rfl),trivial⟩ ?_
   try dsimp only [w0,w1,w2,w3]
   refine Zx3 (Zyt (dst := some 39) (t := 36) (ts := [3,36]) rfl (by kernel_rfl) rfl rfl rfl) rfl ⟨.inr (Zyz (dst := some 39) (t := 36) (ts := [3,36]) rfl (by kernel_rfl) rfl rfl rfl),.inl (by kernel_rfl),trivial⟩ ?_
   refine Zx3 (Zyt (dst := some 40) (t := 36) (ts := [5,36]) rfl (by kernel_rfl) rfl rfl rfl) rfl ⟨.inr (Zyz (dst := some 40) (t := 36) (ts := [5,36]) rfl (by kernel_rfl) rfl rfl rfl),.inl (by kernel_rfl),trivial⟩ ?_
   refine Zx3 (Zyt (dst := some 41) (t := 36) (ts := [39,40,36]) rfl (by kernel_rfl) rfl rfl rfl) rfl ⟨.inr (Zyz (dst := some 41) (t := 36) (ts := [39,40,36]) rfl (by kernel_rfl) rfl rfl rfl),.inl (by kernel_rfl),trivial⟩ ?_
   refine Zx3 (Zyt (dst := some 42) (t := 36) (ts := [41,36]) rfl (by kernel_rfl) rfl rfl rfl) rfl ⟨.inr (Zyz (dst := some 42) (t := 36) (ts := [41,36]) rfl (by kernel_rfl) rfl rfl rfl),.inl (by kernel_rfl),trivial⟩ ?_
   try dsimp only [w0,w1,w2,w3]
   refine xfs 43 36 [42,36] rfl rfl ?_
   refine xfs 44 36 [43,36] rfl rfl ?_
   refine Zx3 (Zyt (dst := some 45) (t := 36) (ts := [44,36]) rfl (by kernel_rfl) rfl rfl rfl) rfl ⟨.inr (Zyz (dst := some 45) (t := 36) (ts := [44,36]) rfl (by kernel_rfl) rfl rfl rfl),.inl (by kernel_rfl),trivial⟩ ?_
   refine xfs 46 36 [45,36] rfl rfl ?_
   try dsimp only [w0,w1,w2,w3]
   refine xfs 47 36 [38,46,36] rfl rfl ?_
   refine xf 48 [36,47] rfl (Zxm · (.tmp rfl) rfl (.bool _)) ?_
   obtain ⟨p119,hp119,p120,hp120,h⟩ := bd2 h
   refine Zzc (e_op (dst := none) (ts := [6,48]) rfl (by intro _ _ h; cases h) (by kernel_rfl) (fun _ ho => Zxk (v := (.bool false)) ho sz4 (.tmp rfl) hp119 (.tmp rfl) rfl hp120)) rfl ⟨.inl (by kernel_rfl),.inl (by kernel_rfl),.inl (by kernel_rfl),.inl (by kernel_rfl),.inl (by kernel_rfl),.inl (by kernel_rfl),.inl (by kernel_rfl),.inl (by kernel_rfl),.inl (by kernel_rfl),.inl (by kernel_rfl),trivial⟩ ?_
   refine Zx5 rfl ?_
   refine rE ?_
   try dsimp only [w0,w1,w2,w3]
   refine qQ rfl (qT rfl rfl rfl (qS 8 rfl (Zxa · (.int _ _)) (rE ?_)))
   dsimp only [w0,w1,w2,w3]
   refine Zxo rfl (Zye rfl ?_)
   try dsimp only [w0,w1,w2,w3]
   exact Zajp hD hH h
def J0 (D : Dp) (H : Hd) (k : Nat) (l : Nat) (y3 : HP) (y4 : HP) (y5 : HP) (y6 : HP) (y14 : HP) (S : HS) : Option (HV × HS) :=
 ((S.begin_ l).bind fun p12 =>
 (y5.bind fun p13 =>
 ((p12.ldI .i64 p13).bind fun p14 =>
 (y3.bind fun p15 =>
 ((p12.ldSl p15).bind fun p16 =>
 (if p14 ≥ (Sl.len p16 : Int) then
 J1 D H k l y3 y4 y5 y6 y14 true p12 else
 J1 D H k l y3 y4 y5 y6 y14 (Option.isNone y14) p12))))))
theorem J0_snd {l : Nat} (hD : DS b w D) (hH : HT b w e H) {p : HV × HS} (h : J0 D H k l y3 y4 y5 y6 y14 S = some p) : HR b w e 35 (some l) [.code c19,.beginRound,.code c20] ⟨[Ga,j,q,(.ptr y3),(.ptr y4),(.ptr y5),(.ptr y6),Gh,i,a,G,B,M,O,(.ptr y14),A,C,E,I,J,L,Q,U,V,Z,c,d,g,r,Kd,Ke,Kf,Kg,Kh,Ki,Kj,Kk,Kl,Km,Kn,Ko,Kp,Kq,Kr,Ks,Kt,Ku,Kv,Kw,Kx,Ky,Kz,Ma,Mb,Mc,Md,Me,Mf,Mg,Mh,Mi,Mj,Mk,Ml,Mm,Mn,Mo,Mp,Mq,Mr,Ms,Mt,Mu,Mv,Mw,Mx,My,Mz,Na,Nb,Nc,Nd,Ne,Nf,Ng,Nh,Ni,Nj,Nk,Nl,Nm,Nn,No,Np,Nq,Nr,Ns,Nt,Nu,Nv,Nw,Nx,Ny,Nz],[]⟩ S (RR p.1 p.2) := by
 unfold J0 at h
 refine qR rfl rfl (uA 7 rfl rfl (rE ?_))
 dsimp only [w0,w1,w2,w3]
 obtain ⟨p12,hp12,h⟩ := bindo h
 refine Zaaq hp12 ?_
 obtain ⟨p13,hp13,p14,hp14,p15,hp15,p16,hp16,h⟩ := bd4 h
 refine Zxo rfl (qQ rfl (qT rfl rfl rfl (uL 15 rfl sc3 rfl hp13 (Zxq hp14) (uL 16 rfl sc30 rfl hp15 (Zxj hp16) (qS 17 rfl (Zxg (q := Sl.a p16) (n := Sl.len p16) (z := Sl.cap p16) · rfl tu30 (.tmp rfl)) (uB 18 rfl rfl rfl rfl ?_))))))
 try dsimp only [w0,w1,w2,w3]
 refine uM 19 rfl rfl ?_
 rcases ifc h with ⟨hc17,h⟩ | ⟨hc17,h⟩
 ·refine Zxi (dst := some 20) (t := 19) rfl rfl rfl (decide_eq_true hc17) (Zxi (dst := some 21) (t := 19) rfl rfl rfl (decide_eq_true hc17) (qS 22 rfl (Zxh · (.tmp rfl) (decide_eq_true hc17) (.bool _)) (rE ?_)))
  dsimp only [w0,w1,w2,w3]
  exact J1_snd hD hH h
 ·refine qG 19 20 rfl (decide_eq_false hc17) (oM · rfl) (qG 19 21 rfl (decide_eq_false hc17) (Zxt · tu36 (.tmp rfl) (.inl ⟨rfl,rfl⟩)) (qS 22 rfl (Zxm · (.tmp rfl) (decide_eq_false hc17) (.tmp rfl)) (rE ?_)))
  dsimp only [w0,w1,w2,w3]
  exact J1_snd hD hH h
def J3 (D : Dp) (H : Hd) (k : Nat) (y4 : HP) (y103 : Bool) (ds : List Nat) (S : HS) : Option ((Bool) × HS) :=
 (y4.bind fun p132 =>
 ((S.sets p132 [(.bool y103)]).bind fun p133 =>
 ((p133.leave ds).bind fun p134 =>
 (y4.bind fun p135 =>
 ((p134.ldB p135).bind fun p136 =>
 some (p136,p134))))))
theorem J3_snd (hD : DS b w D) (hH : HT b w e H) {ds : List Nat} {p : (Bool) × HS} (h : J3 D H k y4 y103 ds S = some p) : HR b w e 35 none [.inRegion r50 [7],.code c51] ⟨[Ga,j,q,m,(.ptr y4),o,N,Gh,i,a,G,B,M,O,K,A,C,E,I,J,L,Q,U,V,Z,c,d,g,r,Kd,Ke,Kf,Kg,Kh,Ki,Kj,Kk,Kl,Km,Kn,Ko,Kp,Kq,Kr,Ks,Kt,Ku,Kv,Kw,Kx,Ky,Kz,Ma,Mb,Mc,Md,Me,Mf,Mg,Mh,Mi,Mj,Mk,Ml,Mm,Mn,Mo,Mp,Mq,Mr,Ms,Mt,Mu,Mv,Mw,Mx,My,Mz,Na,Nb,Nc,Nd,Ne,Nf,Ng,Nh,Ni,Nj,Nk,Nl,Nm,Nn,No,Np,Nq,Nr,Ns,Nt,Nu,Nv,Nw,Nx,Ny,(.bool y103)],ds⟩ S (RR (.bool p.1) p.2) := by
 unfold J3 at h
 obtain ⟨p132,hp132,p133,hp133,h⟩ := bd2 h
 refine qN rfl (Zxk (v := (.bool y103)) · sz4 (.tmp rfl) hp132 (.tmp rfl) rfl hp133) (rE ?_)
 try dsimp only [w0,w1,w2,w3]
 obtain ⟨p134,hp134,p135,hp135,p136,hp136,h⟩ := bd3 h
 cases h
 exact Zxl rfl at_.at_ hp134 (resL1 rfl (.cell rfl hp135 sc4 (Zya hp136))) ⟨rfl,rfl⟩
def f (D : Dp) (H : Hd) (k : Nat) (x0 : HV) (x1 : Sl) (S : HS) : Option ((Bool) × HS) :=
 (letv (HS.new S (.cells 1 [[(Sl.hv x1)]] true)) fun p1 =>
 (letv (HS.new p1 (.cells 1 [[(.bool false)]] true)) fun p2 =>
 (letv (HS.new p2 (.cells 1 [[(.int .i64 0)]] true)) fun p3 =>
 ((p3.sets (HA.cell0 p2.next) [(.int .i64 0)]).bind fun p4 =>
 (letv (HS.new p4 (.cells 1 [[(.bool false)]] true)) fun p5 =>
 ((p5.sets (HA.cell0 p4.next) [(.bool true)]).bind fun p6 =>
 ((HV.isNilFn x0).bind fun p7 =>
 (if (p7) = true then
 ((p6.sets (HA.cell0 p1.next) [(.bool false)]).bind fun p9 =>
 ((p9.leave []).bind fun p10 =>
 ((p10.ldB (HA.cell0 p1.next)).bind fun p11 =>
 some (p11,p10)))) else
 ((D (Hd.set H (HS.next p6 + 1) fun vs T =>
 ((T.lp (HS.next p6 + 1)).bind fun u123 =>
 ((Zaad vs).bind fun ar121 =>
 ((dP ar121).bind fun p122 =>
 (J0 D H k (HS.next p6 + 1) (some (HA.cell0 S.next)) (some (HA.cell0 p1.next)) (some (HA.cell0 p2.next)) (some (HA.cell0 p4.next)) p122 T))))) x0 [.fn (.yield (HS.next p6 + 1)) [] []] (HS.new (HS.new p6 .defer) (.loop .ready none))).bind fun p124 =>
 ((p124.2.finish (HS.next p6 + 1)).bind fun p125 =>
 ((pcode p125.1).bind fun n126 =>
 (if n126 = 0 then
 ((p125.2.ldB (HA.cell0 p4.next)).bind fun p128 =>
 (if p128 = true then
 ((p125.2.ldI .i64 (HA.cell0 p2.next)).bind fun p130 =>
 ((p125.2.ldSl (HA.cell0 S.next)).bind fun p131 =>
 J3 D H k (some (HA.cell0 p1.next)) (decide (p130 = (Sl.len p131 : Int))) (HS.next p6 :: []) p125.2)) else
 J3 D H k (some (HA.cell0 p1.next)) false (HS.next p6 :: []) p125.2)) else
 (if n126 = 1 then
 ((p125.2.leave (HS.next p6 :: [])).bind fun p138 =>
 ((p138.ldB (HA.cell0 p1.next)).bind fun p139 =>
 some (p139,p138))) else
 none)))))))))))))
theorem snd {x0 : HV} {x1 : Sl} (hD : DS b w D) (hH : HT b w e H) {p : (Bool) × HS} (h : f D H k x0 x1 S = some p) : HC b w e 35 [x0,(Sl.hv x1)] S (RR (.bool p.1) p.2) := by
 unfold f at h
 refine HCall.of_run at_.at_ body ?_
 show HR b w e 35 none [.code c0] ⟨[x0,(Sl.hv x1),z,z,z,z,z,z,z,z,z,z,z,z,z,z,z,z,z,z,z,z,z,z,z,z,z,z,z,z,z,z,z,z,z,z,z,z,z,z,z,z,z,z,z,z,z,z,z,z,z,z,z,z,z,z,z,z,z,z,z,z,z,z,z,z,z,z,z,z,z,z,z,z,z,z,z,z,z,z,z,z,z,z,z,z,z,z,z,z,z,z,z,z,z,z,z,z,z,z,z,z,z,z],[]⟩ S _
 obtain ⟨p1,hp1,h⟩ := leto h
 obtain ⟨p2,hp2,h⟩ := leto h
 refine qT rfl rfl rfl (qS 3 rfl (Zyf · (.tmp rfl) (Yav _) rfl hp1) (qS 4 rfl (Zx9 · zi4 zr4 (by decide) rfl hp2) (rE ?_)))
 dsimp only [w0,w1,w2,w3]
 obtain ⟨p3,hp3,h⟩ := leto h
 obtain ⟨p4,hp4,h⟩ := bindo h
 refine qT rfl rfl rfl (qS 5 rfl (Zx9 · zi3 zr3 (by decide) rfl hp3) (qN rfl (Zxk (v := (.int .i64 0)) · sz3 (.tmp rfl) rfl (.int _ _) rfl hp4) (rE ?_)))
 dsimp only [w0,w1,w2,w3]
 obtain ⟨p5,hp5,h⟩ := leto h
 obtain ⟨p6,hp6,h⟩ := bindo h
 refine qT rfl rfl rfl (qS 6 rfl (Zx9 · zi4 zr4 (by decide) rfl hp5) (qN rfl (Zxk (v := (.bool true)) · sz4 (.tmp rfl) rfl (.bool _) rfl hp6) (rE ?_)))
 dsimp only [w0,w1,w2,w3]
 obtain ⟨p7,hp7,h⟩ := bindo h
 refine qQ rfl (qT rfl rfl rfl (uM 11 rfl rfl (qS 12 rfl (Zacb · tu54 (.tmp rfl) hp7 (.inl ⟨rfl,rfl⟩)) (rE ?_))))
 dsimp only [w0,w1,w2,w3]
 rcases ifc h with ⟨hc8,h⟩ | ⟨hc8,h⟩
 ·obtain ⟨p9,hp9,h⟩ := bindo h
  refine Zxb rfl (.tmp rfl) hc8 (qT rfl rfl rfl (qN rfl (Zxk (v := (.bool false)) · sz4 (.tmp rfl) rfl (.bool _) rfl hp9) (rE ?_)))
  try dsimp only [w0,w1,w2,w3]
  obtain ⟨p10,hp10,p11,hp11,h⟩ := bd2 h
  cases h
  exact Zxl rfl at_.at_ hp10 (resL1 rfl (.cell rfl rfl sc4 (Zya hp11))) ⟨rfl,rfl⟩
 ·refine Zxc rfl (.tmp rfl) (bfalse hc8) (Zxd rfl (qQ rfl (qT rfl rfl rfl (uM 13 rfl rfl (rE ?_)))))
  dsimp only [w0,w1,w2,w3]
  obtain ⟨p124,hp124,p125,hp125,h⟩ := bd2 h
  obtain ⟨n126,hn126,h⟩ := bindo h
  refine Zxo rfl ?_
  refine Zaa7 (D := D) (H := H) rfl (.tmp rfl) hD hH hp124 hp125 ?_ ?_
  ·intro β1 hle hLA vs T u T' hr
   obtain ⟨u123,hu123,hr⟩ := bindo hr
   obtain ⟨ar121,har121,hr⟩ := bindo hr
   obtain ⟨p122,hp122,hr⟩ := bindo hr
   rw [Zy7 har121]
   refine Zzy hLA hu123 rfl rfl ?_
   rw [Zy3 hp122]
   simp only [HAct.params,List.set_cons_zero,List.set_cons_succ]
   exact J0_snd hD (hH.up hle) hr
  ·rcases ifc h with ⟨hc127,h⟩ | ⟨hc127,h⟩
   ·rw [Zabw hn126 hc127]
    simp only [Zyj,Zyk]
    obtain ⟨p128,hp128,h⟩ := bindo h
    refine Zxf (qT rfl rfl rfl (uL 97 rfl sc4 rfl rfl (Zya hp128) (uM 98 rfl rfl ?_)))
    rcases ifc h with ⟨hc129,h⟩ | ⟨hc129,h⟩
    ·obtain ⟨p130,hp130,p131,hp131,h⟩ := bd2 h
     refine qG 98 99 rfl hc129 (oL · sc3 rfl rfl (Zxq hp130)) (qG 98 100 rfl hc129 (oL · sc30 rfl rfl (Zxj hp131)) ?_)
     try dsimp only [w0,w1,w2,w3]
     refine qG 98 101 rfl hc129 (Zxg (q := Sl.a p131) (n := Sl.len p131) (z := Sl.cap p131) · rfl tu30 (.tmp rfl)) (qG 98 102 rfl hc129 (oB · rfl rfl rfl) (qS 103 rfl (Zxh · (.tmp rfl) hc129 (.tmp rfl)) ?_))
     try dsimp only [w0,w1,w2,w3]
     exact J3_snd hD hH h
    ·refine Zxi (dst := some 99) (t := 98) rfl rfl rfl (bfalse hc129) (Zxi (dst := some 100) (t := 98) rfl rfl rfl (bfalse hc129) ?_)
     try dsimp only [w0,w1,w2,w3]
     refine Zxi (dst := some 101) (t := 98) rfl rfl rfl (bfalse hc129) (Zxi (dst := some 102) (t := 98) rfl rfl rfl (bfalse hc129) (qS 103 rfl (Zxm · (.tmp rfl) (bfalse hc129) (.bool _)) ?_))
     try dsimp only [w0,w1,w2,w3]
     exact J3_snd hD hH h
   ·rcases ifc h with ⟨hc137,h⟩ | ⟨hc137,h⟩
    ·rw [Zagr hn126 hc137]
     simp only [Zyj,Zyk]
     obtain ⟨p138,hp138,p139,hp139,h⟩ := bd2 h
     cases h
     exact Zxl rfl at_.at_ hp138 (resL1 rfl (.cell rfl rfl sc4 (Zya hp139))) ⟨rfl,rfl⟩
    ·cases h
end Y13
end
noncomputable section
variable {b : Nat} {w : World} {e : Bt}
variable {S : HS} {D : Dp} {H : Hd} {k : Nat} {Ga j m F o N Gh i a G B M O K A C E I J L Q U V Z c d g r Kd Ke Kf Kg Kh Ki Kj Kk Kl Km Kn Ko Kp Kq Kr Ks Kt Ku Kv Kw Kx Ky Kz Ma Mb Mc Md Me Mf Mg Mh Mi Mj Mk Ml Mm Mn Mo Mp Mq Mr Ms Mt Mu Mv Mw Mx My Mz Na Nb Nc Nd Ne Nf Ng Nh Ni Nj Nk Nl Nm Nn No Np Nq Nr Ns Nt Nu Nv Nw Nx Ny Nz Qa Qb Qc Qd Qe Qf Qg Qh Qi Qj Qk Ql Qm Qn Qo Qp Qq Qr Qs Qt Qu Qv Qw Qx Qy Qz Ua Ub Uc Ud Ue Uf Ug Uh Ui Uj Uk Ul Um Un Uo Up Uq Ur Us Ut Uu Uv Uw Ux Uy Uz Va Vb Vc Vd Ve Vf Vg Vh Vi Vj Vk Vl Vm Vn Vo Vp Vq Vr Vs Vt Vu Vv Vw Vx Vy Vz Ya : HV}
def Zaax (D : Dp) (H : Hd) (k : Nat) (vs : List HV) (S : HS) : Option (HV × HS) :=
 Option.bind (Zaae vs) fun a =>
 Option.bind (dA2 a.1) fun p0 =>
 Option.bind (dS p0.1) fun p1 =>
 Option.bind (dP p0.2) fun p2 =>
 Option.bind (dS a.2) fun p3 =>
 Option.bind (Y89.f k p1 p2 p3 S) fun q =>
 some ((.int .i64 q.1),q.2)
theorem Zafj (hD : DS b w D) (hH : HT b w e H) {vs : List HV} {p : HV × HS} (h : Zaax D H k vs S = some p) : HC b w e 103 vs S (fun v1 S1 => v1 = p.1 ∧ S1 = p.2) := by
 unfold Zaax at h
 obtain ⟨a,ha,h⟩ := bindo h
 obtain ⟨p0,hp0,p1,hp1,p2,hp2,p3,hp3,h⟩ := bd4 h
 obtain ⟨q,hq,h⟩ := bindo h
 rw [Zzn ha,dA2_out hp0,Zaes hp1,Zy3 hp2,Zaes hp3]
 cases h
 exact Y89.snd hq
def Zabs (D : Dp) (H : Hd) (k : Nat) (vs : List HV) (S : HS) : Option (HV × HS) :=
 Option.bind (Zaae vs) fun a =>
 Option.bind (dA3 a.1) fun p0 =>
 Option.bind (dI .i64 p0.1) fun p1 =>
 Option.bind (dB p0.2.1) fun p2 =>
 Option.bind (dB p0.2.2) fun p3 =>
 Option.bind (dI .i64 a.2) fun p4 =>
 Option.bind (Y98.f p1 p2 p3 p4 S) fun q =>
 some ((.int .i64 q.1),q.2)
theorem Zagd (hD : DS b w D) (hH : HT b w e H) {vs : List HV} {p : HV × HS} (h : Zabs D H k vs S = some p) : HC b w e 97 vs S (fun v1 S1 => v1 = p.1 ∧ S1 = p.2) := by
 unfold Zabs at h
 obtain ⟨a,ha,h⟩ := bindo h
 obtain ⟨p0,hp0,p1,hp1,p2,hp2,p3,hp3,h⟩ := bd4 h
 obtain ⟨p4,hp4,h⟩ := bindo h
 obtain ⟨q,hq,h⟩ := bindo h
 rw [Zzn ha,Zair hp0,Zaa2 hp1,Zaak hp2,Zaak hp3,Zaa2 hp4]
 cases h
 exact Y98.snd hq
def Zaay (D : Dp) (H : Hd) (k : Nat) (vs : List HV) (S : HS) : Option (HV × HS) :=
 Option.bind (Zaae vs) fun a =>
 Option.bind (dF a.1) fun p0 =>
 Option.bind (dP a.2) fun p1 =>
 Option.bind (Y59.f D H k p0 p1 S) fun q =>
 some (.tup [],q.2)
theorem Zafk (hD : DS b w D) (hH : HT b w e H) {vs : List HV} {p : HV × HS} (h : Zaay D H k vs S = some p) : HC b w e 130 vs S (fun v1 S1 => v1 = p.1 ∧ S1 = p.2) := by
 unfold Zaay at h
 obtain ⟨a,ha,h⟩ := bindo h
 obtain ⟨p0,hp0,p1,hp1,h⟩ := bd2 h
 obtain ⟨q,hq,h⟩ := bindo h
 rw [Zzn ha,Zaal hp0,Zy3 hp1]
 cases h
 exact Y59.snd hD hH hq
def Zaef (D : Dp) (H : Hd) (k : Nat) (vs : List HV) (S : HS) : Option (HV × HS) :=
 Option.bind (Zaad vs) fun a =>
 Option.bind (dF a) fun p0 =>
 Option.bind (Y109.f p0) fun q =>
 some (.tup [],S)
theorem Zage (hD : DS b w D) (hH : HT b w e H) {vs : List HV} {p : HV × HS} (h : Zaef D H k vs S = some p) : HC b w e 93 vs S (fun v1 S1 => v1 = p.1 ∧ S1 = p.2) := by
 unfold Zaef at h
 obtain ⟨a,ha,h⟩ := bindo h
 obtain ⟨p0,hp0,h⟩ := bindo h
 obtain ⟨q,hq,h⟩ := bindo h
 rw [Zy7 ha,Zaal hp0]
 cases h
 exact Y109.snd hq
def Zabt (D : Dp) (H : Hd) (k : Nat) (vs : List HV) (S : HS) : Option (HV × HS) :=
 Option.bind (Zaae vs) fun a =>
 Option.bind (dF a.1) fun p0 =>
 Option.bind (dP a.2) fun p1 =>
 Option.bind (Y63.f D H k p0 p1 S) fun q =>
 some (.tup [],q.2)
theorem Zagf (hD : DS b w D) (hH : HT b w e H) {vs : List HV} {p : HV × HS} (h : Zabt D H k vs S = some p) : HC b w e 63 vs S (fun v1 S1 => v1 = p.1 ∧ S1 = p.2) := by
 unfold Zabt at h
 obtain ⟨a,ha,h⟩ := bindo h
 obtain ⟨p0,hp0,p1,hp1,h⟩ := bd2 h
 obtain ⟨q,hq,h⟩ := bindo h
 rw [Zzn ha,Zaal hp0,Zy3 hp1]
 cases h
 exact Y63.snd hD hH hq
def Zaca (D : Dp) (H : Hd) (k : Nat) (vs : List HV) (S : HS) : Option (HV × HS) :=
 Option.bind (Zaae vs) fun a =>
 Option.bind (dF a.1) fun p0 =>
 Option.bind (dP a.2) fun p1 =>
 Option.bind (Y118.f D H k p0 p1 S) fun q =>
 some (.tup [],q.2)
theorem Zafl (hD : DS b w D) (hH : HT b w e H) {vs : List HV} {p : HV × HS} (h : Zaca D H k vs S = some p) : HC b w e 113 vs S (fun v1 S1 => v1 = p.1 ∧ S1 = p.2) := by
 unfold Zaca at h
 obtain ⟨a,ha,h⟩ := bindo h
 obtain ⟨p0,hp0,p1,hp1,h⟩ := bd2 h
 obtain ⟨q,hq,h⟩ := bindo h
 rw [Zzn ha,Zaal hp0,Zy3 hp1]
 cases h
 exact Y118.snd hD hH hq
def Zaeg (D : Dp) (H : Hd) (k : Nat) (vs : List HV) (S : HS) : Option (HV × HS) :=
 Option.bind (Zaad vs) fun a =>
 Option.bind (dF a) fun p0 =>
 Option.bind (Y117.f p0) fun q =>
 some (.tup [],S)
theorem Zagg (hD : DS b w D) (hH : HT b w e H) {vs : List HV} {p : HV × HS} (h : Zaeg D H k vs S = some p) : HC b w e 81 vs S (fun v1 S1 => v1 = p.1 ∧ S1 = p.2) := by
 unfold Zaeg at h
 obtain ⟨a,ha,h⟩ := bindo h
 obtain ⟨p0,hp0,h⟩ := bindo h
 obtain ⟨q,hq,h⟩ := bindo h
 rw [Zy7 ha,Zaal hp0]
 cases h
 exact Y117.snd hq
def Zaeh (D : Dp) (H : Hd) (k : Nat) (vs : List HV) (S : HS) : Option (HV × HS) :=
 Option.bind (Zaae vs) fun a =>
 Option.bind (dF a.1) fun p0 =>
 Option.bind (dP a.2) fun p1 =>
 Option.bind (Y131.f D H k p0 p1 S) fun q =>
 some (.tup [],q.2)
theorem Zagh (hD : DS b w D) (hH : HT b w e H) {vs : List HV} {p : HV × HS} (h : Zaeh D H k vs S = some p) : HC b w e 88 vs S (fun v1 S1 => v1 = p.1 ∧ S1 = p.2) := by
 unfold Zaeh at h
 obtain ⟨a,ha,h⟩ := bindo h
 obtain ⟨p0,hp0,p1,hp1,h⟩ := bd2 h
 obtain ⟨q,hq,h⟩ := bindo h
 rw [Zzn ha,Zaal hp0,Zy3 hp1]
 cases h
 exact Y131.snd hD hH hq
def Zaei (D : Dp) (H : Hd) (k : Nat) (vs : List HV) (S : HS) : Option (HV × HS) :=
 Option.bind (args3 vs) fun a =>
 Option.bind (dF a.1) fun p0 =>
 Option.bind (dP a.2.1) fun p1 =>
 Option.bind (dP a.2.2) fun p2 =>
 Option.bind (Y125.f D H p0 p1 p2 S) fun q =>
 some (.tup [],q.2)
theorem Zagi (hD : DS b w D) (hH : HT b w e H) {vs : List HV} {p : HV × HS} (h : Zaei D H k vs S = some p) : HC b w e 86 vs S (fun v1 S1 => v1 = p.1 ∧ S1 = p.2) := by
 unfold Zaei at h
 obtain ⟨a,ha,h⟩ := bindo h
 obtain ⟨p0,hp0,p1,hp1,p2,hp2,h⟩ := bd3 h
 obtain ⟨q,hq,h⟩ := bindo h
 rw [Zaiq ha,Zaal hp0,Zy3 hp1,Zy3 hp2]
 cases h
 exact Y125.snd hD hH hq
def Zaaz (D : Dp) (H : Hd) (k : Nat) (vs : List HV) (S : HS) : Option (HV × HS) :=
 Option.bind (Zaae vs) fun a =>
 Option.bind (dF a.1) fun p0 =>
 Option.bind (dP a.2) fun p1 =>
 Option.bind (Y58.f D H k p0 p1 S) fun q =>
 some (.tup [],q.2)
theorem Zafm (hD : DS b w D) (hH : HT b w e H) {vs : List HV} {p : HV × HS} (h : Zaaz D H k vs S = some p) : HC b w e 119 vs S (fun v1 S1 => v1 = p.1 ∧ S1 = p.2) := by
 unfold Zaaz at h
 obtain ⟨a,ha,h⟩ := bindo h
 obtain ⟨p0,hp0,p1,hp1,h⟩ := bd2 h
 obtain ⟨q,hq,h⟩ := bindo h
 rw [Zzn ha,Zaal hp0,Zy3 hp1]
 cases h
 exact Y58.snd hD hH hq
def Zaej (D : Dp) (H : Hd) (k : Nat) (vs : List HV) (S : HS) : Option (HV × HS) :=
 Option.bind (Zaad vs) fun a =>
 Option.bind (dF a) fun p0 =>
 Option.bind (Y106.f p0) fun q =>
 some (.tup [],S)
theorem Zagj (hD : DS b w D) (hH : HT b w e H) {vs : List HV} {p : HV × HS} (h : Zaej D H k vs S = some p) : HC b w e 90 vs S (fun v1 S1 => v1 = p.1 ∧ S1 = p.2) := by
 unfold Zaej at h
 obtain ⟨a,ha,h⟩ := bindo h
 obtain ⟨p0,hp0,h⟩ := bindo h
 obtain ⟨q,hq,h⟩ := bindo h
 rw [Zy7 ha,Zaal hp0]
 cases h
 exact Y106.snd hq
def Zaek (D : Dp) (H : Hd) (k : Nat) (vs : List HV) (S : HS) : Option (HV × HS) :=
 Option.bind (Zaad vs) fun a =>
 Option.bind (dF a) fun p0 =>
 Option.bind (Y120.f p0) fun q =>
 some (.tup [],S)
theorem Zagk (hD : DS b w D) (hH : HT b w e H) {vs : List HV} {p : HV × HS} (h : Zaek D H k vs S = some p) : HC b w e 59 vs S (fun v1 S1 => v1 = p.1 ∧ S1 = p.2) := by
 unfold Zaek at h
 obtain ⟨a,ha,h⟩ := bindo h
 obtain ⟨p0,hp0,h⟩ := bindo h
 obtain ⟨q,hq,h⟩ := bindo h
 rw [Zy7 ha,Zaal hp0]
 cases h
 exact Y120.snd hq
def Zabu (D : Dp) (H : Hd) (k : Nat) (vs : List HV) (S : HS) : Option (HV × HS) :=
 Option.bind (Zaae vs) fun a =>
 Option.bind (dF a.1) fun p0 =>
 Option.bind (dP a.2) fun p1 =>
 Option.bind (Y65.f D H p0 p1 S) fun q =>
 some (.tup [],q.2)
theorem Zagl (hD : DS b w D) (hH : HT b w e H) {vs : List HV} {p : HV × HS} (h : Zabu D H k vs S = some p) : HC b w e 61 vs S (fun v1 S1 => v1 = p.1 ∧ S1 = p.2) := by
 unfold Zabu at h
 obtain ⟨a,ha,h⟩ := bindo h
 obtain ⟨p0,hp0,p1,hp1,h⟩ := bd2 h
 obtain ⟨q,hq,h⟩ := bindo h
 rw [Zzn ha,Zaal hp0,Zy3 hp1]
 cases h
 exact Y65.snd hD hH hq
def disp (k : Nat) : Nat → Dp
 | 0 => fun _ _ _ _ => none
 | n + 1 => fun H fv vs S => match fv with
  | .fn (.yield l) [] [] => Option.bind (H l) fun r => r vs S
  | .fn (.func f) xs ys => if f = 103 then Zaax (disp k n) H k (xs ++ vs ++ ys) S else if f = 97 then Zabs (disp k n) H k (xs ++ vs ++ ys) S else if f = 130 then Zaay (disp k n) H k (xs ++ vs ++ ys) S else if f = 93 then Zaef (disp k n) H k (xs ++ vs ++ ys) S else if f = 63 then Zabt (disp k n) H k (xs ++ vs ++ ys) S else if f = 113 then Zaca (disp k n) H k (xs ++ vs ++ ys) S else if f = 81 then Zaeg (disp k n) H k (xs ++ vs ++ ys) S else if f = 88 then Zaeh (disp k n) H k (xs ++ vs ++ ys) S else if f = 86 then Zaei (disp k n) H k (xs ++ vs ++ ys) S else if f = 119 then Zaaz (disp k n) H k (xs ++ vs ++ ys) S else if f = 90 then Zaej (disp k n) H k (xs ++ vs ++ ys) S else if f = 59 then Zaek (disp k n) H k (xs ++ vs ++ ys) S else if f = 61 then Zabu (disp k n) H k (xs ++ vs ++ ys) S else none
  | _ => none
theorem Zz8 {k n : Nat} {H : Hd} {f : Nat} {xs ys vs : List HV} : disp k (n + 1) H (.fn (.func f) xs ys) vs S = (if f = 103 then Zaax (disp k n) H k (xs ++ vs ++ ys) S else if f = 97 then Zabs (disp k n) H k (xs ++ vs ++ ys) S else if f = 130 then Zaay (disp k n) H k (xs ++ vs ++ ys) S else if f = 93 then Zaef (disp k n) H k (xs ++ vs ++ ys) S else if f = 63 then Zabt (disp k n) H k (xs ++ vs ++ ys) S else if f = 113 then Zaca (disp k n) H k (xs ++ vs ++ ys) S else if f = 81 then Zaeg (disp k n) H k (xs ++ vs ++ ys) S else if f = 88 then Zaeh (disp k n) H k (xs ++ vs ++ ys) S else if f = 86 then Zaei (disp k n) H k (xs ++ vs ++ ys) S else if f = 119 then Zaaz (disp k n) H k (xs ++ vs ++ ys) S else if f = 90 then Zaej (disp k n) H k (xs ++ vs ++ ys) S else if f = 59 then Zaek (disp k n) H k (xs ++ vs ++ ys) S else if f = 61 then Zabu (disp k n) H k (xs ++ vs ++ ys) S else none) := rfl
theorem Zaa0 {k n : Nat} {H : Hd} {l : Nat} {vs : List HV} : disp k (n + 1) H (.fn (.yield l) [] []) vs S = Option.bind (H l) fun r => r vs S := rfl
theorem Zag8 : ∀ n,DSound Tryz.prog b w (disp k n) := by
 intro n
 induction n with
 | zero => intro _ _ _ _ _ _ _ _ h; cases h
 | succ n ih =>
  intro e H hH fv vs S v S' h
  unfold disp at h
  split at h
  ·obtain ⟨r,hr,h⟩ := bindo h
   exact hH _ _ hr _ _ _ _ h
  ·skip
   rcases ifc h with ⟨hf,h⟩ | ⟨hf,h⟩
   ·subst hf; exact HInv.func Y89.at_ Y89.body (Zafj (k := k) ih hH h)
   rcases ifc h with ⟨hf,h⟩ | ⟨hf,h⟩
   ·subst hf; exact HInv.func Y98.at_ Y98.body (Zagd (k := k) ih hH h)
   rcases ifc h with ⟨hf,h⟩ | ⟨hf,h⟩
   ·subst hf; exact HInv.func Y59.at_ Y59.body (Zafk (k := k) ih hH h)
   rcases ifc h with ⟨hf,h⟩ | ⟨hf,h⟩
   ·subst hf; exact HInv.func Y109.at_ Y109.body (Zage (k := k) ih hH h)
   rcases ifc h with ⟨hf,h⟩ | ⟨hf,h⟩
   ·subst hf; exact HInv.func Y63.at_ Y63.body (Zagf (k := k) ih hH h)
   rcases ifc h with ⟨hf,h⟩ | ⟨hf,h⟩
   ·subst hf; exact HInv.func Y118.at_ Y118.body (Zafl (k := k) ih hH h)
   rcases ifc h with ⟨hf,h⟩ | ⟨hf,h⟩
   ·subst hf; exact HInv.func Y117.at_ Y117.body (Zagg (k := k) ih hH h)
   rcases ifc h with ⟨hf,h⟩ | ⟨hf,h⟩
   ·subst hf; exact HInv.func Y131.at_ Y131.body (Zagh (k := k) ih hH h)
   rcases ifc h with ⟨hf,h⟩ | ⟨hf,h⟩
   ·subst hf; exact HInv.func Y125.at_ Y125.body (Zagi (k := k) ih hH h)
   rcases ifc h with ⟨hf,h⟩ | ⟨hf,h⟩
   ·subst hf; exact HInv.func Y58.at_ Y58.body (Zafm (k := k) ih hH h)
   rcases ifc h with ⟨hf,h⟩ | ⟨hf,h⟩
   ·subst hf; exact HInv.func Y106.at_ Y106.body (Zagj (k := k) ih hH h)
   rcases ifc h with ⟨hf,h⟩ | ⟨hf,h⟩
   ·subst hf; exact HInv.func Y120.at_ Y120.body (Zagk (k := k) ih hH h)
   rcases ifc h with ⟨hf,h⟩ | ⟨hf,h⟩
   ·subst hf; exact HInv.func Y65.at_ Y65.body (Zagl (k := k) ih hH h)
   cases h
  ·cases h
end
noncomputable section
variable {b : Nat} {w : World} {e : Bt}
variable {S : HS} {D : Dp} {H : Hd} {k : Nat} {Ga j m F o N Gh i a G B M O K A C E I J L Q U V Z c d g r Kd Ke Kf Kg Kh Ki Kj Kk Kl Km Kn Ko Kp Kq Kr Ks Kt Ku Kv Kw Kx Ky Kz Ma Mb Mc Md Me Mf Mg Mh Mi Mj Mk Ml Mm Mn Mo Mp Mq Mr Ms Mt Mu Mv Mw Mx My Mz Na Nb Nc Nd Ne Nf Ng Nh Ni Nj Nk Nl Nm Nn No Np Nq Nr Ns Nt Nu Nv Nw Nx Ny Nz Qa Qb Qc Qd Qe Qf Qg Qh Qi Qj Qk Ql Qm Qn Qo Qp Qq Qr Qs Qt Qu Qv Qw Qx Qy Qz Ua Ub Uc Ud Ue Uf Ug Uh Ui Uj Uk Ul Um Un Uo Up Uq Ur Us Ut Uu Uv Uw Ux Uy Uz Va Vb Vc Vd Ve Vf Vg Vh Vi Vj Vk Vl Vm Vn Vo Vp Vq Vr Vs Vt Vu Vv Vw Vx Vy Vz Ya : HV}
theorem A0 : (Y99.f (disp 2000 60) (fun _ => none) 2000 S0).map (fun p => p.1) = some true := by kernel_rfl
namespace aw
def f (S : HS) : Option (Bool × HS) := some (true,S)
theorem snd {b : Nat} {w : World} {e : Bt} {p : Bool × HS} (h : f S = some p) : HC b w e 7 [] S (RR (.bool p.1) p.2) := by
 unfold f at h
 cases h
 refine HCall.of_calls (v := .bool true) fun β w args' _ ha => ⟨.bool true,.bool true,?_⟩
 have h0 : args' = #[] := by have := ha.1; simpa using this.symm
 subst h0
 cases hA : Y99.f (disp 2000 60) (fun _ => none) 2000 S0 with
 | none => have := A0; rw [hA] at this; cases this
 | some q =>
  have h1 : q.1 = true := by have := A0; rw [hA] at this; simpa using this
  have hc := Y99.snd (b := w.heap.size) (w := w) (e := B0) (Zag8 60) (fun _ _ h => by cases h) hA
  rw [h1] at hc
  refine HCall.calls hc (rel0 w) (VRels.nil B0) fun v S1 g => g.1
end aw
namespace Y2
theorem at_ : FnAt Tryz.prog 5 Tryz.f5 := ⟨Tryz.func5,by kernel_rfl⟩
def d0 := (Tryz.f5.body).getD .skip
def r1 := kT d0
def r4 := kT (kY d0)
def r7 := kT (kY (kY d0))
def r12 := kT (kY (kB d0))
def r15 := kT (kY (kY (kB d0)))
def d18 := kW (kB d0)
def r19 := kT d18
def r21 := kT (kB d18)
def d23 := kY (kB d18)
def r24 := kT d23
def d27 := kX (kB d23)
def r29 := kT (kA d27)
def d35 := kX (kB d27)
def r36 := kT d35
def r39 := kT (kY d35)
def d40 := kZ (kB d35)
def r42 := kT (kA d40)
def r45 := kT (kY (kA d40))
def r48 := kT (kY (kY (kA d40)))
def d51 := kW (kA d40)
def r52 := kT d51
def r55 := kT (kY d51)
def r58 := kT (kY (kY d51))
def r62 := kT (kW d51)
def r64 := kT (kW (kB d51))
def r66 := kT (kW (kW d51))
def r69 := kT (kY (kW (kW d51)))
def r73 := kT (kW d35)
def r75 := kT (kW (kB d35))
def r77 := kT (kW (kW d35))
def r80 := kT (kY (kW (kW d35)))
def r83 := kR (kW d27)
def r85 := kT (kW (kB d18))
def c84 : Code := .seq (.region 26 r85 false) .ret
def c83 : Code := .region 9 r83 false
def c78 : Code := .cond (.tmp 182) (.seq (.region 25 r80 false) .ret) .skip
def c72 : Code := .seq (.region 22 r73 false) (.seq (.region 23 r75 false) (.seq (.region 24 r77 true) c78))
def c67 : Code := .cond (.tmp 92) (.seq (.region 15 r69 false) .ret) .skip
def c27 : Code := .seq (.seq (.region 8 r29 false) (.cond (.tmp 49) .skip (.exit 0))) (.seq (.block 1 (.seq (.region 10 r36 false) (.seq (.seq (.region 11 r39 false) (.block 2 (.seq (.region 16 r42 false) (.cond (.tmp 93) (.seq (.region 17 r45 true) (.cond (.tmp 107) (.seq (.region 18 r48 false) .ret) .skip)) (.seq (.region 19 r52 false) (.cond (.tmp 108) (.seq (.region 20 r55 true) (.cond (.tmp 118) (.seq (.region 21 r58 false) .ret) .skip)) (.seq (.region 12 r62 false) (.seq (.region 13 r64 false) (.seq (.region 14 r66 false) c67))))))))) c72))) c83)
def c18 : Code := .seq (.region 5 r19 false) (.seq (.region 6 r21 false) (.seq (.seq (.region 7 r24 false) (.block 0 (.loop c27))) c84))
def c13 : Code := .cond (.tmp 37) (.seq (.region 4 r15 false) .ret) .skip
def c0 : Code := .seq (.region 0 r1 false) (.seq (.seq (.region 1 r4 false) (.cond (.tmp 19) (.seq (.region 2 r7 false) .ret) .skip)) (.seq (.seq (.region 3 r12 false) c13) c18))
theorem body : Tryz.f5.body = some c0 := by kernel_rfl
variable {y0 y1 y9 : Int} {y2 : Sl} {y7 y8 y10 y11 y13 : HP} {y25 y29 y33 y37 y85 y92 y182 : Bool}
def J6 (D : Dp) (H : Hd) (k : Nat) (rec0 : Sl → HP → HP → Int → HS → Option ((Bool) × HS)) (y2 : Sl) (y7 : HP) (y8 : HP) (y9 : Int) (y182 : Bool) (S : HS) : Option ((Bool) × HS) :=
 (if y182 = true then
 some (false,S) else
 rec0 y2 y7 y8 (w64 (y9 + 1)) S)
theorem J6_snd {rec0 : Sl → HP → HP → Int → HS → Option ((Bool) × HS)} (hD : DS b w D) (hH : HT b w e H) (hrec0 : ∀ ⦃y2 : Sl⦄ ⦃y7 : HP⦄ ⦃y8 : HP⦄ ⦃y9 : Int⦄ ⦃S : HS⦄ ⦃p : (Bool) × HS⦄ ⦃Ga j m F o N G B M O K A C E I J L Q U V Z c d g r Kd Ke Kf Kg Kh Ki Kj Kk Kl Km Kn Ko Kp Kq Kr Ks Kt Ku Kv Kw Kx Ky Kz Ma Mb Mc Md Me Mf Mg Mh Mi Mj Mk Ml Mm Mn Mo Mp Mq Mr Ms Mt Mu Mv Mw Mx My Mz Na Nb Nc Nd Ne Nf Ng Nh Ni Nj Nk Nl Nm Nn No Np Nq Nr Ns Nt Nu Nv Nw Nx Ny Nz Qa Qb Qc Qd Qe Qf Qg Qh Qi Qj Qk Ql Qm Qn Qo Qp Qq Qr Qs Qt Qu Qv Qw Qx Qy Qz Ua Ub Uc Ud Ue Uf Ug Uh Ui Uj Uk Ul Um Un Uo Up Uq Ur Us Ut Uu Uv Uw Ux Uy Uz Va Vb Vc Vd Ve Vf Vg Vh Vi Vj Vk Vl Vm Vn Vo Vp Vq Vr Vs Vt Vu Vv Vw Vx Vy Vz Ya : HV⦄,rec0 y2 y7 y8 y9 S = some p → HR b w e 5 none [.inLoop c27,.inBlock 0,.code c84] ⟨[Ga,j,(Sl.hv y2),m,F,o,N,(.ptr y7),(.ptr y8),(.int .i64 y9),G,B,M,O,K,A,C,E,I,J,L,Q,U,V,Z,c,d,g,r,Kd,Ke,Kf,Kg,Kh,Ki,Kj,Kk,Kl,Km,Kn,Ko,Kp,Kq,Kr,Ks,Kt,Ku,Kv,Kw,Kx,Ky,Kz,Ma,Mb,Mc,Md,Me,Mf,Mg,Mh,Mi,Mj,Mk,Ml,Mm,Mn,Mo,Mp,Mq,Mr,Ms,Mt,Mu,Mv,Mw,Mx,My,Mz,Na,Nb,Nc,Nd,Ne,Nf,Ng,Nh,Ni,Nj,Nk,Nl,Nm,Nn,No,Np,Nq,Nr,Ns,Nt,Nu,Nv,Nw,Nx,Ny,Nz,Qa,Qb,Qc,Qd,Qe,Qf,Qg,Qh,Qi,Qj,Qk,Ql,Qm,Qn,Qo,Qp,Qq,Qr,Qs,Qt,Qu,Qv,Qw,Qx,Qy,Qz,Ua,Ub,Uc,Ud,Ue,Uf,Ug,Uh,Ui,Uj,Uk,Ul,Um,Un,Uo,Up,Uq,Ur,Us,Ut,Uu,Uv,Uw,Ux,Uy,Uz,Va,Vb,Vc,Vd,Ve,Vf,Vg,Vh,Vi,Vj,Vk,Vl,Vm,Vn,Vo,Vp,Vq,Vr,Vs,Vt,Vu,Vv,Vw,Vx,Vy,Vz,Ya],[]⟩ S (RR (.bool p.1) p.2)) {p : (Bool) × HS} (h : J6 D H k rec0 y2 y7 y8 y9 y182 S = some p) : HR b w e 5 none [.code c78,.inBlock 1,.code c83,.inLoop c27,.inBlock 0,.code c84] ⟨[Ga,j,(Sl.hv y2),m,F,o,N,(.ptr y7),(.ptr y8),(.int .i64 y9),G,B,M,O,K,A,C,E,I,J,L,Q,U,V,Z,c,d,g,r,Kd,Ke,Kf,Kg,Kh,Ki,Kj,Kk,Kl,Km,Kn,Ko,Kp,Kq,Kr,Ks,Kt,Ku,Kv,Kw,Kx,Ky,Kz,Ma,Mb,Mc,Md,Me,Mf,Mg,Mh,Mi,Mj,Mk,Ml,Mm,Mn,Mo,Mp,Mq,Mr,Ms,Mt,Mu,Mv,Mw,Mx,My,Mz,Na,Nb,Nc,Nd,Ne,Nf,Ng,Nh,Ni,Nj,Nk,Nl,Nm,Nn,No,Np,Nq,Nr,Ns,Nt,Nu,Nv,Nw,Nx,Ny,Nz,Qa,Qb,Qc,Qd,Qe,Qf,Qg,Qh,Qi,Qj,Qk,Ql,Qm,Qn,Qo,Qp,Qq,Qr,Qs,Qt,Qu,Qv,Qw,Qx,Qy,Qz,Ua,Ub,Uc,Ud,Ue,Uf,Ug,Uh,Ui,Uj,Uk,Ul,Um,Un,Uo,Up,Uq,Ur,Us,Ut,Uu,Uv,Uw,Ux,Uy,Uz,Va,Vb,Vc,Vd,Ve,Vf,Vg,Vh,Vi,Vj,Vk,Vl,Vm,Vn,Vo,Vp,Vq,Vr,Vs,Vt,Vu,Vv,Vw,Vx,Vy,Vz,(.bool y182)],[]⟩ S (RR (.bool p.1) p.2) := by
 unfold J6 at h
 rcases ifc h with ⟨hc38,h⟩ | ⟨hc38,h⟩
 ·refine Zxb rfl (.tmp rfl) hc38 (qT rfl rfl rfl (qS 6 rfl (Zxa · (.bool _)) (rE ?_)))
  cases h
  exact Zxl rfl at_.at_ rfl (res1 rfl rfl) ⟨rfl,rfl⟩
 ·refine Zxc rfl (.tmp rfl) (bfalse hc38) (Zxd rfl (Zxf (qR rfl rfl (uM 50 rfl rfl (uC 51 rfl rfl rfl (uA 9 rfl rfl (rE ?_)))))))
  dsimp only [w0,w1,w2,w3]
  exact hrec0 h
def J5 (D : Dp) (H : Hd) (k : Nat) (rec0 : Sl → HP → HP → Int → HS → Option ((Bool) × HS)) (y2 : Sl) (y7 : HP) (y8 : HP) (y9 : Int) (y10 : HP) (S : HS) : Option ((Bool) × HS) :=
 (y10.bind fun p31 =>
 ((S.ldS (HA.fld p31 2)).bind fun p32 =>
 ((Y33.f D H k y7 p32 S).bind fun p33 =>
 (y10.bind fun p34 =>
 ((p33.2.ldS (HA.fld p34 2)).bind fun p35 =>
 ((Y17.f k y8 p35 p33.2).bind fun p36 =>
 (if (!(p33.1.2 == (!Option.isNone p36.1))) = true then
 J6 D H k rec0 y2 y7 y8 y9 true p36.2 else
 ((Y6.f p33.1.1 p36.2).bind fun p39 =>
 ((Y43.f p36.1 p39.2).bind fun p40 =>
 (if (!decide (p39.1 = p40.1)) = true then
 J6 D H k rec0 y2 y7 y8 y9 true p40.2 else
 ((Y41.f y7 p40.2).bind fun p42 =>
 (y8.bind fun p43 =>
 ((p42.2.ldSl (HA.fld p43 3)).bind fun p44 =>
 ((p40.2.ldSl (HA.fld p43 3)).bind fun p45 =>
 (if p45 = p44 then
 (if (!decide (p42.1 = (Sl.len p44 : Int))) = true then
 J6 D H k rec0 y2 y7 y8 y9 true p42.2 else
 (y10.bind fun p48 =>
 ((p42.2.ldI .i64 (HA.fld p48 1)).bind fun p49 =>
 ((Y69.f y7 p49 p42.2).bind fun p50 =>
 (y10.bind fun p51 =>
 ((p50.2.ldI .i64 (HA.fld p51 1)).bind fun p52 =>
 ((p42.2.ldI .i64 (HA.fld p51 1)).bind fun p53 =>
 (if p53 = p52 then
 ((Y0.f k y8 p52 false p50.2).bind fun p55 =>
 (if (!decide (p50.1 = (Sl.len p55.1 : Int))) = true then
 J6 D H k rec0 y2 y7 y8 y9 true p55.2 else
 ((Y81.f y7 p55.2).bind fun p57 =>
 ((Y0.f k y8 0 true p57.2).bind fun p58 =>
 ((Y13.f D H k p57.1 p58.1 p58.2).bind fun p59 =>
 (if (!p59.1) = true then
 J6 D H k rec0 y2 y7 y8 y9 true p59.2 else
 (y10.bind fun p61 =>
 ((p59.2.ldI .i64 (HA.fld p61 1)).bind fun p62 =>
 ((Y12.f D H k y7 p62 p59.2).bind fun p63 =>
 (y10.bind fun p64 =>
 ((p63.2.ldI .i64 (HA.fld p64 1)).bind fun p65 =>
 ((p59.2.ldI .i64 (HA.fld p64 1)).bind fun p66 =>
 (if p66 = p65 then
 ((Y0.f k y8 p65 false p63.2).bind fun p68 =>
 ((Y13.f D H k p63.1 p68.1 p68.2).bind fun p69 =>
 J6 D H k rec0 y2 y7 y8 y9 (!p69.1) p69.2)) else none))))))))))))) else none)))))))) else none)))))))))))))))
theorem J5_snd {rec0 : Sl → HP → HP → Int → HS → Option ((Bool) × HS)} (hD : DS b w D) (hH : HT b w e H) (hrec0 : ∀ ⦃y2 : Sl⦄ ⦃y7 : HP⦄ ⦃y8 : HP⦄ ⦃y9 : Int⦄ ⦃S : HS⦄ ⦃p : (Bool) × HS⦄ ⦃Ga j m F o N G B M O K A C E I J L Q U V Z c d g r Kd Ke Kf Kg Kh Ki Kj Kk Kl Km Kn Ko Kp Kq Kr Ks Kt Ku Kv Kw Kx Ky Kz Ma Mb Mc Md Me Mf Mg Mh Mi Mj Mk Ml Mm Mn Mo Mp Mq Mr Ms Mt Mu Mv Mw Mx My Mz Na Nb Nc Nd Ne Nf Ng Nh Ni Nj Nk Nl Nm Nn No Np Nq Nr Ns Nt Nu Nv Nw Nx Ny Nz Qa Qb Qc Qd Qe Qf Qg Qh Qi Qj Qk Ql Qm Qn Qo Qp Qq Qr Qs Qt Qu Qv Qw Qx Qy Qz Ua Ub Uc Ud Ue Uf Ug Uh Ui Uj Uk Ul Um Un Uo Up Uq Ur Us Ut Uu Uv Uw Ux Uy Uz Va Vb Vc Vd Ve Vf Vg Vh Vi Vj Vk Vl Vm Vn Vo Vp Vq Vr Vs Vt Vu Vv Vw Vx Vy Vz Ya : HV⦄,rec0 y2 y7 y8 y9 S = some p → HR b w e 5 none [.inLoop c27,.inBlock 0,.code c84] ⟨[Ga,j,(Sl.hv y2),m,F,o,N,(.ptr y7),(.ptr y8),(.int .i64 y9),G,B,M,O,K,A,C,E,I,J,L,Q,U,V,Z,c,d,g,r,Kd,Ke,Kf,Kg,Kh,Ki,Kj,Kk,Kl,Km,Kn,Ko,Kp,Kq,Kr,Ks,Kt,Ku,Kv,Kw,Kx,Ky,Kz,Ma,Mb,Mc,Md,Me,Mf,Mg,Mh,Mi,Mj,Mk,Ml,Mm,Mn,Mo,Mp,Mq,Mr,Ms,Mt,Mu,Mv,Mw,Mx,My,Mz,Na,Nb,Nc,Nd,Ne,Nf,Ng,Nh,Ni,Nj,Nk,Nl,Nm,Nn,No,Np,Nq,Nr,Ns,Nt,Nu,Nv,Nw,Nx,Ny,Nz,Qa,Qb,Qc,Qd,Qe,Qf,Qg,Qh,Qi,Qj,Qk,Ql,Qm,Qn,Qo,Qp,Qq,Qr,Qs,Qt,Qu,Qv,Qw,Qx,Qy,Qz,Ua,Ub,Uc,Ud,Ue,Uf,Ug,Uh,Ui,Uj,Uk,Ul,Um,Un,Uo,Up,Uq,Ur,Us,Ut,Uu,Uv,Uw,Ux,Uy,Uz,Va,Vb,Vc,Vd,Ve,Vf,Vg,Vh,Vi,Vj,Vk,Vl,Vm,Vn,Vo,Vp,Vq,Vr,Vs,Vt,Vu,Vv,Vw,Vx,Vy,Vz,Ya],[]⟩ S (RR (.bool p.1) p.2)) {p : (Bool) × HS} (h : J5 D H k rec0 y2 y7 y8 y9 y10 S = some p) : HR b w e 5 none [.code c72,.inBlock 1,.code c83,.inLoop c27,.inBlock 0,.code c84] ⟨[Ga,j,(Sl.hv y2),m,F,o,N,(.ptr y7),(.ptr y8),(.int .i64 y9),(.ptr y10),B,M,O,K,A,C,E,I,J,L,Q,U,V,Z,c,d,g,r,Kd,Ke,Kf,Kg,Kh,Ki,Kj,Kk,Kl,Km,Kn,Ko,Kp,Kq,Kr,Ks,Kt,Ku,Kv,Kw,Kx,Ky,Kz,Ma,Mb,Mc,Md,Me,Mf,Mg,Mh,Mi,Mj,Mk,Ml,Mm,Mn,Mo,Mp,Mq,Mr,Ms,Mt,Mu,Mv,Mw,Mx,My,Mz,Na,Nb,Nc,Nd,Ne,Nf,Ng,Nh,Ni,Nj,Nk,Nl,Nm,Nn,No,Np,Nq,Nr,Ns,Nt,Nu,Nv,Nw,Nx,Ny,Nz,Qa,Qb,Qc,Qd,Qe,Qf,Qg,Qh,Qi,Qj,Qk,Ql,Qm,Qn,Qo,Qp,Qq,Qr,Qs,Qt,Qu,Qv,Qw,Qx,Qy,Qz,Ua,Ub,Uc,Ud,Ue,Uf,Ug,Uh,Ui,Uj,Uk,Ul,Um,Un,Uo,Up,Uq,Ur,Us,Ut,Uu,Uv,Uw,Ux,Uy,Uz,Va,Vb,Vc,Vd,Ve,Vf,Vg,Vh,Vi,Vj,Vk,Vl,Vm,Vn,Vo,Vp,Vq,Vr,Vs,Vt,Vu,Vv,Vw,Vx,Vy,Vz,Ya],[]⟩ S (RR (.bool p.1) p.2) := by
 unfold J5 at h
 obtain ⟨p31,hp31,p32,hp32,p33,hp33,h⟩ := bd3 h
 refine qT rfl rfl rfl (uM 120 rfl rfl (uF 121 rfl Zac0 (by decide) rfl hp31 (uL 122 rfl sc9 rfl rfl (Zx4 hp32) (uQ 123 rfl (.func _) (ev2 rfl rfl) (HInv.static Y33.at_ Y33.body (Y33.snd hD hH hp33)) ?_))))
 try dsimp only [w0,w1,w2,w3]
 refine uM 119 rfl rfl (qS 124 rfl (Zxr · (.tmp rfl) rfl) (qS 125 rfl (Zxr · (.tmp rfl) rfl) (uA 15 rfl rfl ?_)))
 try dsimp only [w0,w1,w2,w3]
 refine uA 16 rfl rfl (rE ?_)
 dsimp only [w0,w1,w2,w3]
 obtain ⟨p34,hp34,p35,hp35,p36,hp36,h⟩ := bd3 h
 refine qT rfl rfl rfl (uM 126 rfl rfl (uF 127 rfl Zac0 (by decide) rfl hp34 (uL 128 rfl sc9 rfl rfl (Zx4 hp35) (uQ 129 rfl (.func _) (ev2 rfl rfl) (HInv.static Y17.at_ Y17.body (Y17.snd  hp36)) ?_))))
 try dsimp only [w0,w1,w2,w3]
 refine uA 17 rfl rfl (rE ?_)
 dsimp only [w0,w1,w2,w3]
 refine qQ rfl ?_
 refine Zx8 (cls := [0,0,0,0,0,0,2,0,2,0,0,0,0,2,0,0,0,3,0,0,0,0,0,0,1,2,0,0,3,2,0,0,0,0,0,2,0,2,2,0,0,0,0,0,1,2,0,0,3,2,2,0,0]) (rk := [0,1,2,3,4,5,6,7,8,9,10,11,12,13,14,15,16,17,18,19,20,21,22,23,24,25,26,27,28,29,30,31,32,33,34,35,36,37,38,39,40,41,42,43,44,45,46,47,48,49,50,51,52]) rfl (by kernel_rfl) ?_
 refine xf 130 [16] rfl (oM · rfl) ?_
 refine xf 131 [17] rfl (oM · rfl) ?_
 refine xf 132 [131] rfl (Zxt · tu39 (.tmp rfl) (.inr ⟨rfl,rfl⟩)) ?_
 refine xf 133 [130,132] rfl (Zaig · tu4 (.inr ⟨rfl,rfl⟩) (.tmp rfl) (.tmp rfl)) ?_
 try dsimp only [w0,w1,w2,w3]
 refine xf 134 [133] rfl (oM · rfl) ?_
 rcases ifc h with ⟨hc37,h⟩ | ⟨hc37,h⟩
 ·refine xfs 135 134 [15,134] rfl hc37 ?_
  refine zes 136 134 [135,134] rfl hc37 trivial ?_
  refine xfs 137 134 [17,134] rfl hc37 ?_
  try dsimp only [w0,w1,w2,w3]
  refine zes 138 134 [137,134] rfl hc37 trivial ?_
  refine xfs 139 134 [136,138,134] rfl hc37 ?_
  refine xf 140 [134,139] rfl (Zxh · (.tmp rfl) hc37 (.bool _)) ?_
  refine xf 141 [140] rfl (oM · rfl) ?_
  try dsimp only [w0,w1,w2,w3]
  refine xfs 142 141 [7,141] rfl rfl ?_
  refine zes 143 141 [142,141] rfl rfl trivial ?_
  refine xfs 144 141 [8,141] rfl rfl ?_
  refine xfs 145 141 [144,141] rfl rfl ?_
  try dsimp only [w0,w1,w2,w3]
  refine xfs 146 141 [145,141] rfl rfl ?_
  refine Zx3 (Zyt (dst := some 147) (t := 141) (ts := [146,141]) rfl (by kernel_rfl) rfl rfl rfl) rfl ⟨.inr (Zyz (dst := some 147) (t := 141) (ts := [146,141]) rfl (by kernel_rfl) rfl rfl rfl),.inl (by kernel_rfl),.inl (by kernel_rfl),trivial⟩ ?_
  refine xfs 148 141 [147,141] rfl rfl ?_
  refine xfs 149 141 [143,148,141] rfl rfl ?_
  try dsimp only [w0,w1,w2,w3]
  refine xf 150 [141,149] rfl (Zxh · (.tmp rfl) rfl (.bool _)) ?_
  refine xf 151 [150] rfl (oM · rfl) ?_
  refine xfs 152 151 [7,151] rfl rfl ?_
  refine xfs 153 151 [10,151] rfl rfl ?_
  try dsimp only [w0,w1,w2,w3]
  refine xrs 154 151 [153,151] rfl rfl ?_
  refine zes 155 151 [152,154,151] rfl rfl ⟨.inl (by kernel_rfl),trivial⟩ ?_
  refine xfs 156 151 [8,151] rfl rfl ?_
  refine xfs 157 151 [10,151] rfl rfl ?_
  try dsimp only [w0,w1,w2,w3]
  refine Zx3 (Zyt (dst := some 158) (t := 151) (ts := [157,151]) rfl (by kernel_rfl) rfl rfl rfl) rfl ⟨.inr (Zyz (dst := some 158) (t := 151) (ts := [157,151]) rfl (by kernel_rfl) rfl rfl rfl),.inl (by kernel_rfl),.inl (by kernel_rfl),.inl (by kernel_rfl),trivial⟩ ?_
  refine zes 159 151 [156,158,151] rfl rfl ⟨.inl (by kernel_rfl),.inl (by kernel_rfl),trivial⟩ ?_
  refine xfs 160 151 [159,151] rfl rfl ?_
  refine xfs 161 151 [155,160,151] rfl rfl ?_
  try dsimp only [w0,w1,w2,w3]
  refine xf 162 [151,161] rfl (Zxh · (.tmp rfl) rfl (.bool _)) ?_
  refine xf 163 [162] rfl (oM · rfl) ?_
  refine xfs 164 163 [7,163] rfl rfl ?_
  refine zes 165 163 [164,163] rfl rfl ⟨.inl (by kernel_rfl),.inl (by kernel_rfl),trivial⟩ ?_
  try dsimp only [w0,w1,w2,w3]
  refine xfs 166 163 [8,163] rfl rfl ?_
  refine zes 167 163 [166,163] rfl rfl ⟨.inl (by kernel_rfl),.inl (by kernel_rfl),trivial⟩ ?_
  refine zes 168 163 [165,167,163] rfl rfl ⟨.inl (by kernel_rfl),.inl (by kernel_rfl),trivial⟩ ?_
  refine xfs 169 163 [168,163] rfl rfl ?_
  try dsimp only [w0,w1,w2,w3]
  refine xf 170 [163,169] rfl (Zxh · (.tmp rfl) rfl (.bool _)) ?_
  refine xf 171 [170] rfl (oM · rfl) ?_
  refine xfs 172 171 [7,171] rfl rfl ?_
  refine xfs 173 171 [10,171] rfl rfl ?_
  try dsimp only [w0,w1,w2,w3]
  refine xrs 174 171 [173,171] rfl rfl ?_
  refine zes 175 171 [172,174,171] rfl rfl ⟨.inl (by kernel_rfl),.inl (by kernel_rfl),trivial⟩ ?_
  refine xfs 176 171 [8,171] rfl rfl ?_
  refine xfs 177 171 [10,171] rfl rfl ?_
  try dsimp only [w0,w1,w2,w3]
  refine Zx3 (Zyt (dst := some 178) (t := 171) (ts := [177,171]) rfl (by kernel_rfl) rfl rfl rfl) rfl ⟨.inr (Zyz (dst := some 178) (t := 171) (ts := [177,171]) rfl (by kernel_rfl) rfl rfl rfl),.inl (by kernel_rfl),.inl (by kernel_rfl),.inl (by kernel_rfl),.inl (by kernel_rfl),.inl (by kernel_rfl),.inl (by kernel_rfl),.inl (by kernel_rfl),.inl (by kernel_rfl),trivial⟩ ?_
  refine zes 179 171 [176,178,171] rfl rfl ⟨.inl (by kernel_rfl),.inl (by kernel_rfl),.inl (by kernel_rfl),trivial⟩ ?_
  refine zes 180 171 [175,179,171] rfl rfl ⟨.inl (by kernel_rfl),.inl (by kernel_rfl),.inl (by kernel_rfl),trivial⟩ ?_
  refine xfs 181 171 [180,171] rfl rfl ?_
  try dsimp only [w0,w1,w2,w3]
  refine xf 182 [171,181] rfl (Zxh · (.tmp rfl) rfl (.bool _)) ?_
  refine Zx5 rfl ?_
  refine rE ?_
  try dsimp only [w0,w1,w2,w3]
  exact J6_snd hD hH hrec0 h
 ·refine xfg 135 134 [15,134] rfl (bfalse hc37) (oM · rfl) ?_
  obtain ⟨p39,hp39,h⟩ := bindo h
  refine Zzc (Zyu (dst := some 136) (t := 134) (ts := [135,134]) rfl (by kernel_rfl) rfl rfl (bfalse hc37) (.func _) (ev1 rfl) (HInv.static Y6.at_ Y6.body (Y6.snd  hp39))) rfl trivial ?_
  refine xfg 137 134 [17,134] rfl (bfalse hc37) (oM · rfl) ?_
  try dsimp only [w0,w1,w2,w3]
  obtain ⟨p40,hp40,h⟩ := bindo h
  refine Zzc (Zyu (dst := some 138) (t := 134) (ts := [137,134]) rfl (by kernel_rfl) rfl rfl (bfalse hc37) (.func _) (ev1 rfl) (HInv.static Y43.at_ Y43.body (Y43.snd  hp40))) rfl trivial ?_
  refine xfg 139 134 [136,138,134] rfl (bfalse hc37) (Zzw · (.tmp rfl) (.tmp rfl) rfl) ?_
  refine xf 140 [134,139] rfl (Zxm · (.tmp rfl) (bfalse hc37) (.tmp rfl)) ?_
  refine xf 141 [140] rfl (oM · rfl) ?_
  try dsimp only [w0,w1,w2,w3]
  rcases ifc h with ⟨hc41,h⟩ | ⟨hc41,h⟩
  ·refine xfs 142 141 [7,141] rfl hc41 ?_
   refine zes 143 141 [142,141] rfl hc41 trivial ?_
   refine xfs 144 141 [8,141] rfl hc41 ?_
   refine xfs 145 141 [144,141] rfl hc41 ?_
   try dsimp only [w0,w1,w2,w3]
   refine xfs 146 141 [145,141] rfl hc41 ?_
   refine Zx3 (Zyt (dst := some 147) (t := 141) (ts := [146,141]) rfl (by kernel_rfl) rfl rfl hc41) rfl ⟨.inr (Zyz (dst := some 147) (t := 141) (ts := [146,141]) rfl (by kernel_rfl) rfl rfl hc41),.inl (by kernel_rfl),.inl (by kernel_rfl),trivial⟩ ?_
   refine xfs 148 141 [147,141] rfl hc41 ?_
   refine xfs 149 141 [143,148,141] rfl hc41 ?_
   try dsimp only [w0,w1,w2,w3]
   refine xf 150 [141,149] rfl (Zxh · (.tmp rfl) hc41 (.bool _)) ?_
   refine xf 151 [150] rfl (oM · rfl) ?_
   refine xfs 152 151 [7,151] rfl rfl ?_
   refine xfs 153 151 [10,151] rfl rfl ?_
   try dsimp only [w0,w1,w2,w3]
   refine xrs 154 151 [153,151] rfl rfl ?_
   refine zes 155 151 [152,154,151] rfl rfl ⟨.inl (by kernel_rfl),trivial⟩ ?_
   refine xfs 156 151 [8,151] rfl rfl ?_
   refine xfs 157 151 [10,151] rfl rfl ?_
   try dsimp only [w0,w1,w2,w3]
   refine Zx3 (Zyt (dst := some 158) (t := 151) (ts := [157,151]) rfl (by kernel_rfl) rfl rfl rfl) rfl ⟨.inr (Zyz (dst := some 158) (t := 151) (ts := [157,151]) rfl (by kernel_rfl) rfl rfl rfl),.inl (by kernel_rfl),.inl (by kernel_rfl),.inl (by kernel_rfl),trivial⟩ ?_
   refine zes 159 151 [156,158,151] rfl rfl ⟨.inl (by kernel_rfl),.inl (by kernel_rfl),trivial⟩ ?_
   refine xfs 160 151 [159,151] rfl rfl ?_
   refine xfs 161 151 [155,160,151] rfl rfl ?_
   try dsimp only [w0,w1,w2,w3]
   refine xf 162 [151,161] rfl (Zxh · (.tmp rfl) rfl (.bool _)) ?_
   refine xf 163 [162] rfl (oM · rfl) ?_
   refine xfs 164 163 [7,163] rfl rfl ?_
   refine zes 165 163 [164,163] rfl rfl ⟨.inl (by kernel_rfl),.inl (by kernel_rfl),trivial⟩ ?_
   try dsimp only [w0,w1,w2,w3]
   refine xfs 166 163 [8,163] rfl rfl ?_
   refine zes 167 163 [166,163] rfl rfl ⟨.inl (by kernel_rfl),.inl (by kernel_rfl),trivial⟩ ?_
   refine zes 168 163 [165,167,163] rfl rfl ⟨.inl (by kernel_rfl),.inl (by kernel_rfl),trivial⟩ ?_
   refine xfs 169 163 [168,163] rfl rfl ?_
   try dsimp only [w0,w1,w2,w3]
   refine xf 170 [163,169] rfl (Zxh · (.tmp rfl) rfl (.bool _)) ?_
   refine xf 171 [170] rfl (oM · rfl) ?_
   refine xfs 172 171 [7,171] rfl rfl ?_
   refine xfs 173 171 [10,171] rfl rfl ?_
   try dsimp only [w0,w1,w2,w3]
   refine xrs 174 171 [173,171] rfl rfl ?_
   refine zes 175 171 [172,174,171] rfl rfl ⟨.inl (by kernel_rfl),.inl (by kernel_rfl),trivial⟩ ?_
   refine xfs 176 171 [8,171] rfl rfl ?_
   refine xfs 177 171 [10,171] rfl rfl ?_
   try dsimp only [w0,w1,w2,w3]
   refine Zx3 (Zyt (dst := some 178) (t := 171) (ts := [177,171]) rfl (by kernel_rfl) rfl rfl rfl) rfl ⟨.inr (Zyz (dst := some 178) (t := 171) (ts := [177,171]) rfl (by kernel_rfl) rfl rfl rfl),.inl (by kernel_rfl),.inl (by kernel_rfl),.inl (by kernel_rfl),.inl (by kernel_rfl),.inl (by kernel_rfl),.inl (by kernel_rfl),.inl (by kernel_rfl),.inl (by kernel_rfl),trivial⟩ ?_
   refine zes 179 171 [176,178,171] rfl rfl ⟨.inl (by kernel_rfl),.inl (by kernel_rfl),.inl (by kernel_rfl),trivial⟩ ?_
   refine zes 180 171 [175,179,171] rfl rfl ⟨.inl (by kernel_rfl),.inl (by kernel_rfl),.inl (by kernel_rfl),trivial⟩ ?_
   refine xfs 181 171 [180,171] rfl rfl ?_
   try dsimp only [w0,w1,w2,w3]
   refine xf 182 [171,181] rfl (Zxh · (.tmp rfl) rfl (.bool _)) ?_
   refine Zx5 rfl ?_
   refine rE ?_
   try dsimp only [w0,w1,w2,w3]
   exact J6_snd hD hH hrec0 h
  ·refine xfg 142 141 [7,141] rfl (bfalse hc41) (oM · rfl) ?_
   obtain ⟨p42,hp42,h⟩ := bindo h
   refine Zzc (Zyu (dst := some 143) (t := 141) (ts := [142,141]) rfl (by kernel_rfl) rfl rfl (bfalse hc41) (.func _) (ev1 rfl) (HInv.static Y41.at_ Y41.body (Y41.snd  hp42))) rfl trivial ?_
   refine xfg 144 141 [8,141] rfl (bfalse hc41) (oM · rfl) ?_
   obtain ⟨p43,hp43,h⟩ := bindo h
   refine xfg 145 141 [144,141] rfl (bfalse hc41) (oN · rfl hp43) ?_
   try dsimp only [w0,w1,w2,w3]
   refine xfg 146 141 [145,141] rfl (bfalse hc41) (oF · Zz7 (by decide) rfl rfl) ?_
   obtain ⟨p44,hp44,p45,hp45,h⟩ := bd2 h
   obtain ⟨hg46,h⟩ := gd h
   refine Zx3 (Zzu (dst := some 147) (t := 141) (ts := [146,141]) rfl (by intro _ _ h; cases h) (by kernel_rfl) rfl rfl (bfalse hc41) (fun _ ho => Zxs ho sc30 (.tmp rfl) rfl (Zxj hp44))) rfl ⟨.inr (Zzz (dst := some 147) (t := 141) (ts := [146,141]) rfl (by intro _ _ h; cases h) (by kernel_rfl) rfl rfl (bfalse hc41) (fun _ ho => Zxs ho sc30 (.tmp rfl) rfl (Zxj (hp45.trans (congrArg some hg46))))),.inl (by kernel_rfl),.inl (by kernel_rfl),trivial⟩ ?_
   refine xfg 148 141 [147,141] rfl (bfalse hc41) (Zxg (q := Sl.a p44) (n := Sl.len p44) (z := Sl.cap p44) · rfl tu30 (.tmp rfl)) ?_
   refine xfg 149 141 [143,148,141] rfl (bfalse hc41) (oB · rfl rfl rfl) ?_
   try dsimp only [w0,w1,w2,w3]
   refine xf 150 [141,149] rfl (Zxm · (.tmp rfl) (bfalse hc41) (.tmp rfl)) ?_
   refine xf 151 [150] rfl (oM · rfl) ?_
   rcases ifc h with ⟨hc47,h⟩ | ⟨hc47,h⟩
   ·refine xfs 152 151 [7,151] rfl hc47 ?_
    refine xfs 153 151 [10,151] rfl hc47 ?_
    try dsimp only [w0,w1,w2,w3]
    refine xrs 154 151 [153,151] rfl hc47 ?_
    refine zes 155 151 [152,154,151] rfl hc47 ⟨.inl (by kernel_rfl),trivial⟩ ?_
    refine xfs 156 151 [8,151] rfl hc47 ?_
    refine xfs 157 151 [10,151] rfl hc47 ?_
    try dsimp only [w0,w1,w2,w3]
    refine Zx3 (Zyt (dst := some 158) (t := 151) (ts := [157,151]) rfl (by kernel_rfl) rfl rfl hc47) rfl ⟨.inr (Zyz (dst := some 158) (t := 151) (ts := [157,151]) rfl (by kernel_rfl) rfl rfl hc47),.inl (by kernel_rfl),.inl (by kernel_rfl),.inl (by kernel_rfl),trivial⟩ ?_
    refine zes 159 151 [156,158,151] rfl hc47 ⟨.inl (by kernel_rfl),.inl (by kernel_rfl),trivial⟩ ?_
    refine xfs 160 151 [159,151] rfl hc47 ?_
    refine xfs 161 151 [155,160,151] rfl hc47 ?_
    try dsimp only [w0,w1,w2,w3]
    refine xf 162 [151,161] rfl (Zxh · (.tmp rfl) hc47 (.bool _)) ?_
    refine xf 163 [162] rfl (oM · rfl) ?_
    refine xfs 164 163 [7,163] rfl rfl ?_
    refine zes 165 163 [164,163] rfl rfl ⟨.inl (by kernel_rfl),.inl (by kernel_rfl),trivial⟩ ?_
    try dsimp only [w0,w1,w2,w3]
    refine xfs 166 163 [8,163] rfl rfl ?_
    refine zes 167 163 [166,163] rfl rfl ⟨.inl (by kernel_rfl),.inl (by kernel_rfl),trivial⟩ ?_
    refine zes 168 163 [165,167,163] rfl rfl ⟨.inl (by kernel_rfl),.inl (by kernel_rfl),trivial⟩ ?_
    refine xfs 169 163 [168,163] rfl rfl ?_
    try dsimp only [w0,w1,w2,w3]
    refine xf 170 [163,169] rfl (Zxh · (.tmp rfl) rfl (.bool _)) ?_
    refine xf 171 [170] rfl (oM · rfl) ?_
    refine xfs 172 171 [7,171] rfl rfl ?_
    refine xfs 173 171 [10,171] rfl rfl ?_
    try dsimp only [w0,w1,w2,w3]
    refine xrs 174 171 [173,171] rfl rfl ?_
    refine zes 175 171 [172,174,171] rfl rfl ⟨.inl (by kernel_rfl),.inl (by kernel_rfl),trivial⟩ ?_
    refine xfs 176 171 [8,171] rfl rfl ?_
    refine xfs 177 171 [10,171] rfl rfl ?_
    try dsimp only [w0,w1,w2,w3]
    refine Zx3 (Zyt (dst := some 178) (t := 171) (ts := [177,171]) rfl (by kernel_rfl) rfl rfl rfl) rfl ⟨.inr (Zyz (dst := some 178) (t := 171) (ts := [177,171]) rfl (by kernel_rfl) rfl rfl rfl),.inl (by kernel_rfl),.inl (by kernel_rfl),.inl (by kernel_rfl),.inl (by kernel_rfl),.inl (by kernel_rfl),.inl (by kernel_rfl),.inl (by kernel_rfl),.inl (by kernel_rfl),trivial⟩ ?_
    refine zes 179 171 [176,178,171] rfl rfl ⟨.inl (by kernel_rfl),.inl (by kernel_rfl),.inl (by kernel_rfl),trivial⟩ ?_
    refine zes 180 171 [175,179,171] rfl rfl ⟨.inl (by kernel_rfl),.inl (by kernel_rfl),.inl (by kernel_rfl),trivial⟩ ?_
    refine xfs 181 171 [180,171] rfl rfl ?_
    try dsimp only [w0,w1,w2,w3]
    refine xf 182 [171,181] rfl (Zxh · (.tmp rfl) rfl (.bool _)) ?_
    refine Zx5 rfl ?_
    refine rE ?_
    try dsimp only [w0,w1,w2,w3]
    exact J6_snd hD hH hrec0 h
   ·refine xfg 152 151 [7,151] rfl (bfalse hc47) (oM · rfl) ?_
    obtain ⟨p48,hp48,h⟩ := bindo h
    refine xfg 153 151 [10,151] rfl (bfalse hc47) (oF · Zaa5 (by decide) rfl hp48) ?_
    try dsimp only [w0,w1,w2,w3]
    obtain ⟨p49,hp49,h⟩ := bindo h
    refine xrg 154 151 [153,151] rfl (bfalse hc47) (oL · sc3 rfl rfl (Zxq hp49)) ?_
    obtain ⟨p50,hp50,h⟩ := bindo h
    refine Zzc (Zyu (dst := some 155) (t := 151) (ts := [152,154,151]) rfl (by kernel_rfl) rfl rfl (bfalse hc47) (.func _) (ev2 rfl rfl) (HInv.static Y69.at_ Y69.body (Y69.snd  hp50))) rfl ⟨.inl (by kernel_rfl),trivial⟩ ?_
    refine xfg 156 151 [8,151] rfl (bfalse hc47) (oM · rfl) ?_
    obtain ⟨p51,hp51,h⟩ := bindo h
    refine xfg 157 151 [10,151] rfl (bfalse hc47) (oF · Zaa5 (by decide) rfl hp51) ?_
    try dsimp only [w0,w1,w2,w3]
    obtain ⟨p52,hp52,p53,hp53,h⟩ := bd2 h
    obtain ⟨hg54,h⟩ := gd h
    refine Zx3 (Zzu (dst := some 158) (t := 151) (ts := [157,151]) rfl (by intro _ _ h; cases h) (by kernel_rfl) rfl rfl (bfalse hc47) (fun _ ho => Zxs ho sc3 (.tmp rfl) rfl (Zxq hp52))) rfl ⟨.inr (Zzz (dst := some 158) (t := 151) (ts := [157,151]) rfl (by intro _ _ h; cases h) (by kernel_rfl) rfl rfl (bfalse hc47) (fun _ ho => Zxs ho sc3 (.tmp rfl) rfl (Zxq (hp53.trans (congrArg some hg54))))),.inl (by kernel_rfl),.inl (by kernel_rfl),.inl (by kernel_rfl),trivial⟩ ?_
    obtain ⟨p55,hp55,h⟩ := bindo h
    refine Zzc (Zyu (dst := some 159) (t := 151) (ts := [156,158,151]) rfl (by kernel_rfl) rfl rfl (bfalse hc47) (.func _) (.cons (.tmp rfl) (.cons (.tmp rfl) (.cons (.bool _) Evs.nil))) (HInv.static Y0.at_ Y0.body (Y0.snd  hp55))) rfl ⟨.inl (by kernel_rfl),.inl (by kernel_rfl),trivial⟩ ?_
    refine xfg 160 151 [159,151] rfl (bfalse hc47) (Zxg (q := Sl.a p55.1) (n := Sl.len p55.1) (z := Sl.cap p55.1) · rfl tu30 (.tmp rfl)) ?_
    refine xfg 161 151 [155,160,151] rfl (bfalse hc47) (oB · rfl rfl rfl) ?_
    try dsimp only [w0,w1,w2,w3]
    refine xf 162 [151,161] rfl (Zxm · (.tmp rfl) (bfalse hc47) (.tmp rfl)) ?_
    refine xf 163 [162] rfl (oM · rfl) ?_
    rcases ifc h with ⟨hc56,h⟩ | ⟨hc56,h⟩
    ·refine xfs 164 163 [7,163] rfl hc56 ?_
     refine zes 165 163 [164,163] rfl hc56 ⟨.inl (by kernel_rfl),.inl (by kernel_rfl),trivial⟩ ?_
     try dsimp only [w0,w1,w2,w3]
     refine xfs 166 163 [8,163] rfl hc56 ?_
     refine zes 167 163 [166,163] rfl hc56 ⟨.inl (by kernel_rfl),.inl (by kernel_rfl),trivial⟩ ?_
     refine zes 168 163 [165,167,163] rfl hc56 ⟨.inl (by kernel_rfl),.inl (by kernel_rfl),trivial⟩ ?_
     refine xfs 169 163 [168,163] rfl hc56 ?_
     try dsimp only [w0,w1,w2,w3]
     refine xf 170 [163,169] rfl (Zxh · (.tmp rfl) hc56 (.bool _)) ?_
     refine xf 171 [170] rfl (oM · rfl) ?_
     refine xfs 172 171 [7,171] rfl rfl ?_
     refine xfs 173 171 [10,171] rfl rfl ?_
     try dsimp only [w0,w1,w2,w3]
     refine xrs 174 171 [173,171] rfl rfl ?_
     refine zes 175 171 [172,174,171] rfl rfl ⟨.inl (by kernel_rfl),.inl (by kernel_rfl),trivial⟩ ?_
     refine xfs 176 171 [8,171] rfl rfl ?_
     refine xfs 177 171 [10,171] rfl rfl ?_
     try dsimp only [w0,w1,w2,w3]
     refine Zx3 (Zyt (dst := some 178) (t := 171) (ts := [177,171]) rfl (by kernel_rfl) rfl rfl rfl) rfl ⟨.inr (Zyz (dst := some 178) (t := 171) (ts := [177,171]) rfl (by kernel_rfl) rfl rfl rfl),.inl (by kernel_rfl),.inl (by kernel_rfl),.inl (by kernel_rfl),.inl (by kernel_rfl),.inl (by kernel_rfl),.inl (by kernel_rfl),.inl (by kernel_rfl),.inl (by kernel_rfl),trivial⟩ ?_
     refine zes 179 171 [176,178,171] rfl rfl ⟨.inl (by kernel_rfl),.inl (by kernel_rfl),.inl (by kernel_rfl),trivial⟩ ?_
     refine zes 180 171 [175,179,171] rfl rfl ⟨.inl (by kernel_rfl),.inl (by kernel_rfl),.inl (by kernel_rfl),trivial⟩ ?_
     refine xfs 181 171 [180,171] rfl rfl ?_
     try dsimp only [w0,w1,w2,w3]
     refine xf 182 [171,181] rfl (Zxh · (.tmp rfl) rfl (.bool _)) ?_
     refine Zx5 rfl ?_
     refine rE ?_
     try dsimp only [w0,w1,w2,w3]
     exact J6_snd hD hH hrec0 h
    ·refine xfg 164 163 [7,163] rfl (bfalse hc56) (oM · rfl) ?_
     obtain ⟨p57,hp57,h⟩ := bindo h
     refine Zzc (Zyu (dst := some 165) (t := 163) (ts := [164,163]) rfl (by kernel_rfl) rfl rfl (bfalse hc56) (.func _) (ev1 rfl) (HInv.static Y81.at_ Y81.body (Y81.snd  hp57))) rfl ⟨.inl (by kernel_rfl),.inl (by kernel_rfl),trivial⟩ ?_
     try dsimp only [w0,w1,w2,w3]
     refine xfg 166 163 [8,163] rfl (bfalse hc56) (oM · rfl) ?_
     obtain ⟨p58,hp58,h⟩ := bindo h
     refine Zzc (Zyu (dst := some 167) (t := 163) (ts := [166,163]) rfl (by kernel_rfl) rfl rfl (bfalse hc56) (.func _) (.cons (.tmp rfl) (.cons (.int _ _) (.cons (.bool _) Evs.nil))) (HInv.static Y0.at_ Y0.body (Y0.snd  hp58))) rfl ⟨.inl (by kernel_rfl),.inl (by kernel_rfl),trivial⟩ ?_
     obtain ⟨p59,hp59,h⟩ := bindo h
     refine Zzc (Zyu (dst := some 168) (t := 163) (ts := [165,167,163]) rfl (by kernel_rfl) rfl rfl (bfalse hc56) (.func _) (ev2 rfl rfl) (HInv.static Y13.at_ Y13.body (Y13.snd hD hH hp59))) rfl ⟨.inl (by kernel_rfl),.inl (by kernel_rfl),trivial⟩ ?_
     refine xfg 169 163 [168,163] rfl (bfalse hc56) (Zys · (.tmp rfl)) ?_
     try dsimp only [w0,w1,w2,w3]
     refine xf 170 [163,169] rfl (Zxm · (.tmp rfl) (bfalse hc56) (.tmp rfl)) ?_
     refine xf 171 [170] rfl (oM · rfl) ?_
     rcases ifc h with ⟨hc60,h⟩ | ⟨hc60,h⟩
     ·refine xfs 172 171 [7,171] rfl hc60 ?_
      refine xfs 173 171 [10,171] rfl hc60 ?_
      try dsimp only [w0,w1,w2,w3]
      refine xrs 174 171 [173,171] rfl hc60 ?_
      refine zes 175 171 [172,174,171] rfl hc60 ⟨.inl (by kernel_rfl),.inl (by kernel_rfl),trivial⟩ ?_
      refine xfs 176 171 [8,171] rfl hc60 ?_
      refine xfs 177 171 [10,171] rfl hc60 ?_
      try dsimp only [w0,w1,w2,w3]
      refine Zx3 (Zyt (dst := some 178) (t := 171) (ts := [177,171]) rfl (by kernel_rfl) rfl rfl hc60) rfl ⟨.inr (Zyz (dst := some 178) (t := 171) (ts := [177,171]) rfl (by kernel_rfl) rfl rfl hc60),.inl (by kernel_rfl),.inl (by kernel_rfl),.inl (by kernel_rfl),.inl (by kernel_rfl),.inl (by kernel_rfl),.inl (by kernel_rfl),.inl (by kernel_rfl),.inl (by kernel_rfl),trivial⟩ ?_
      refine zes 179 171 [176,178,171] rfl hc60 ⟨.inl (by kernel_rfl),.inl (by kernel_rfl),.inl (by kernel_rfl),trivial⟩ ?_
      refine zes 180 171 [175,179,171] rfl hc60 ⟨.inl (by kernel_rfl),.inl (by kernel_rfl),.inl (by kernel_rfl),trivial⟩ ?_
      refine xfs 181 171 [180,171] rfl hc60 ?_
      try dsimp only [w0,w1,w2,w3]
      refine xf 182 [171,181] rfl (Zxh · (.tmp rfl) hc60 (.bool _)) ?_
      refine Zx5 rfl ?_
      refine rE ?_
      try dsimp only [w0,w1,w2,w3]
      exact J6_snd hD hH hrec0 h
     ·refine xfg 172 171 [7,171] rfl (bfalse hc60) (oM · rfl) ?_
      obtain ⟨p61,hp61,h⟩ := bindo h
      refine xfg 173 171 [10,171] rfl (bfalse hc60) (oF · Zaa5 (by decide) rfl hp61) ?_
      try dsimp only [w0,w1,w2,w3]
      obtain ⟨p62,hp62,h⟩ := bindo h
      refine xrg 174 171 [173,171] rfl (bfalse hc60) (oL · sc3 rfl rfl (Zxq hp62)) ?_
      obtain ⟨p63,hp63,h⟩ := bindo h
      refine Zzc (Zyu (dst := some 175) (t := 171) (ts := [172,174,171]) rfl (by kernel_rfl) rfl rfl (bfalse hc60) (.func _) (ev2 rfl rfl) (HInv.static Y12.at_ Y12.body (Y12.snd hD hH hp63))) rfl ⟨.inl (by kernel_rfl),.inl (by kernel_rfl),trivial⟩ ?_
      refine xfg 176 171 [8,171] rfl (bfalse hc60) (oM · rfl) ?_
      obtain ⟨p64,hp64,h⟩ := bindo h
      refine xfg 177 171 [10,171] rfl (bfalse hc60) (oF · Zaa5 (by decide) rfl hp64) ?_
      try dsimp only [w0,w1,w2,w3]
      obtain ⟨p65,hp65,p66,hp66,h⟩ := bd2 h
      obtain ⟨hg67,h⟩ := gd h
      refine Zx3 (Zzu (dst := some 178) (t := 171) (ts := [177,171]) rfl (by intro _ _ h; cases h) (by kernel_rfl) rfl rfl (bfalse hc60) (fun _ ho => Zxs ho sc3 (.tmp rfl) rfl (Zxq hp65))) rfl ⟨.inr (Zzz (dst := some 178) (t := 171) (ts := [177,171]) rfl (by intro _ _ h; cases h) (by kernel_rfl) rfl rfl (bfalse hc60) (fun _ ho => Zxs ho sc3 (.tmp rfl) rfl (Zxq (hp66.trans (congrArg some hg67))))),.inl (by kernel_rfl),.inl (by kernel_rfl),.inl (by kernel_rfl),.inl (by kernel_rfl),.inl (by kernel_rfl),.inl (by kernel_rfl),.inl (by kernel_rfl),.inl (by kernel_rfl),trivial⟩ ?_
      obtain ⟨p68,hp68,h⟩ := bindo h
      refine Zzc (Zyu (dst := some 179) (t := 171) (ts := [176,178,171]) rfl (by kernel_rfl) rfl rfl (bfalse hc60) (.func _) (.cons (.tmp rfl) (.cons (.tmp rfl) (.cons (.bool _) Evs.nil))) (HInv.static Y0.at_ Y0.body (Y0.snd  hp68))) rfl ⟨.inl (by kernel_rfl),.inl (by kernel_rfl),.inl (by kernel_rfl),trivial⟩ ?_
      obtain ⟨p69,hp69,h⟩ := bindo h
      refine Zzc (Zyu (dst := some 180) (t := 171) (ts := [175,179,171]) rfl (by kernel_rfl) rfl rfl (bfalse hc60) (.func _) (ev2 rfl rfl) (HInv.static Y13.at_ Y13.body (Y13.snd hD hH hp69))) rfl ⟨.inl (by kernel_rfl),.inl (by kernel_rfl),.inl (by kernel_rfl),trivial⟩ ?_
      refine xfg 181 171 [180,171] rfl (bfalse hc60) (Zys · (.tmp rfl)) ?_
      try dsimp only [w0,w1,w2,w3]
      refine xf 182 [171,181] rfl (Zxm · (.tmp rfl) (bfalse hc60) (.tmp rfl)) ?_
      refine Zx5 rfl ?_
      refine rE ?_
      try dsimp only [w0,w1,w2,w3]
      exact J6_snd hD hH hrec0 h
def J8 (D : Dp) (H : Hd) (k : Nat) (rec0 : Sl → HP → HP → Int → HS → Option ((Bool) × HS)) (y2 : Sl) (y7 : HP) (y8 : HP) (y9 : Int) (y10 : HP) (y92 : Bool) (S : HS) : Option ((Bool) × HS) :=
 (if y92 = true then
 some (false,S) else
 J5 D H k rec0 y2 y7 y8 y9 y10 S)
theorem J8_snd {rec0 : Sl → HP → HP → Int → HS → Option ((Bool) × HS)} (hD : DS b w D) (hH : HT b w e H) (hrec0 : ∀ ⦃y2 : Sl⦄ ⦃y7 : HP⦄ ⦃y8 : HP⦄ ⦃y9 : Int⦄ ⦃S : HS⦄ ⦃p : (Bool) × HS⦄ ⦃Ga j m F o N G B M O K A C E I J L Q U V Z c d g r Kd Ke Kf Kg Kh Ki Kj Kk Kl Km Kn Ko Kp Kq Kr Ks Kt Ku Kv Kw Kx Ky Kz Ma Mb Mc Md Me Mf Mg Mh Mi Mj Mk Ml Mm Mn Mo Mp Mq Mr Ms Mt Mu Mv Mw Mx My Mz Na Nb Nc Nd Ne Nf Ng Nh Ni Nj Nk Nl Nm Nn No Np Nq Nr Ns Nt Nu Nv Nw Nx Ny Nz Qa Qb Qc Qd Qe Qf Qg Qh Qi Qj Qk Ql Qm Qn Qo Qp Qq Qr Qs Qt Qu Qv Qw Qx Qy Qz Ua Ub Uc Ud Ue Uf Ug Uh Ui Uj Uk Ul Um Un Uo Up Uq Ur Us Ut Uu Uv Uw Ux Uy Uz Va Vb Vc Vd Ve Vf Vg Vh Vi Vj Vk Vl Vm Vn Vo Vp Vq Vr Vs Vt Vu Vv Vw Vx Vy Vz Ya : HV⦄,rec0 y2 y7 y8 y9 S = some p → HR b w e 5 none [.inLoop c27,.inBlock 0,.code c84] ⟨[Ga,j,(Sl.hv y2),m,F,o,N,(.ptr y7),(.ptr y8),(.int .i64 y9),G,B,M,O,K,A,C,E,I,J,L,Q,U,V,Z,c,d,g,r,Kd,Ke,Kf,Kg,Kh,Ki,Kj,Kk,Kl,Km,Kn,Ko,Kp,Kq,Kr,Ks,Kt,Ku,Kv,Kw,Kx,Ky,Kz,Ma,Mb,Mc,Md,Me,Mf,Mg,Mh,Mi,Mj,Mk,Ml,Mm,Mn,Mo,Mp,Mq,Mr,Ms,Mt,Mu,Mv,Mw,Mx,My,Mz,Na,Nb,Nc,Nd,Ne,Nf,Ng,Nh,Ni,Nj,Nk,Nl,Nm,Nn,No,Np,Nq,Nr,Ns,Nt,Nu,Nv,Nw,Nx,Ny,Nz,Qa,Qb,Qc,Qd,Qe,Qf,Qg,Qh,Qi,Qj,Qk,Ql,Qm,Qn,Qo,Qp,Qq,Qr,Qs,Qt,Qu,Qv,Qw,Qx,Qy,Qz,Ua,Ub,Uc,Ud,Ue,Uf,Ug,Uh,Ui,Uj,Uk,Ul,Um,Un,Uo,Up,Uq,Ur,Us,Ut,Uu,Uv,Uw,Ux,Uy,Uz,Va,Vb,Vc,Vd,Ve,Vf,Vg,Vh,Vi,Vj,Vk,Vl,Vm,Vn,Vo,Vp,Vq,Vr,Vs,Vt,Vu,Vv,Vw,Vx,Vy,Vz,Ya],[]⟩ S (RR (.bool p.1) p.2)) {p : (Bool) × HS} (h : J8 D H k rec0 y2 y7 y8 y9 y10 y92 S = some p) : HR b w e 5 none [.code c67,.inBlock 2,.code c72,.inBlock 1,.code c83,.inLoop c27,.inBlock 0,.code c84] ⟨[Ga,j,(Sl.hv y2),m,F,o,N,(.ptr y7),(.ptr y8),(.int .i64 y9),(.ptr y10),B,M,O,K,A,C,E,I,J,L,Q,U,V,Z,c,d,g,r,Kd,Ke,Kf,Kg,Kh,Ki,Kj,Kk,Kl,Km,Kn,Ko,Kp,Kq,Kr,Ks,Kt,Ku,Kv,Kw,Kx,Ky,Kz,Ma,Mb,Mc,Md,Me,Mf,Mg,Mh,Mi,Mj,Mk,Ml,Mm,Mn,Mo,Mp,Mq,Mr,Ms,Mt,Mu,Mv,Mw,Mx,My,Mz,Na,Nb,Nc,Nd,Ne,Nf,Ng,Nh,Ni,Nj,Nk,Nl,Nm,Nn,(.bool y92),Np,Nq,Nr,Ns,Nt,Nu,Nv,Nw,Nx,Ny,Nz,Qa,Qb,Qc,Qd,Qe,Qf,Qg,Qh,Qi,Qj,Qk,Ql,Qm,Qn,Qo,Qp,Qq,Qr,Qs,Qt,Qu,Qv,Qw,Qx,Qy,Qz,Ua,Ub,Uc,Ud,Ue,Uf,Ug,Uh,Ui,Uj,Uk,Ul,Um,Un,Uo,Up,Uq,Ur,Us,Ut,Uu,Uv,Uw,Ux,Uy,Uz,Va,Vb,Vc,Vd,Ve,Vf,Vg,Vh,Vi,Vj,Vk,Vl,Vm,Vn,Vo,Vp,Vq,Vr,Vs,Vt,Vu,Vv,Vw,Vx,Vy,Vz,Ya],[]⟩ S (RR (.bool p.1) p.2) := by
 unfold J8 at h
 rcases ifc h with ⟨hc86,h⟩ | ⟨hc86,h⟩
 ·refine Zxb rfl (.tmp rfl) hc86 (qT rfl rfl rfl (qS 6 rfl (Zxa · (.bool _)) (rE ?_)))
  cases h
  exact Zxl rfl at_.at_ rfl (res1 rfl rfl) ⟨rfl,rfl⟩
 ·refine Zxc rfl (.tmp rfl) (bfalse hc86) (Zxd rfl (Zxf ?_))
  try dsimp only [w0,w1,w2,w3]
  exact J5_snd hD hH hrec0 h
def J7 (D : Dp) (H : Hd) (k : Nat) (rec0 : Sl → HP → HP → Int → HS → Option ((Bool) × HS)) (y2 : Sl) (y7 : HP) (y8 : HP) (y9 : Int) (y10 : HP) (y11 : HP) (y13 : HP) (y85 : Bool) (S : HS) : Option ((Bool) × HS) :=
 (if y85 = true then
 J8 D H k rec0 y2 y7 y8 y9 y10 true S else
 ((Y6.f y11 S).bind fun p87 =>
 ((Y43.f y13 p87.2).bind fun p88 =>
 J8 D H k rec0 y2 y7 y8 y9 y10 (!decide (p87.1 = p88.1)) p88.2)))
theorem J7_snd {rec0 : Sl → HP → HP → Int → HS → Option ((Bool) × HS)} (hD : DS b w D) (hH : HT b w e H) (hrec0 : ∀ ⦃y2 : Sl⦄ ⦃y7 : HP⦄ ⦃y8 : HP⦄ ⦃y9 : Int⦄ ⦃S : HS⦄ ⦃p : (Bool) × HS⦄ ⦃Ga j m F o N G B M O K A C E I J L Q U V Z c d g r Kd Ke Kf Kg Kh Ki Kj Kk Kl Km Kn Ko Kp Kq Kr Ks Kt Ku Kv Kw Kx Ky Kz Ma Mb Mc Md Me Mf Mg Mh Mi Mj Mk Ml Mm Mn Mo Mp Mq Mr Ms Mt Mu Mv Mw Mx My Mz Na Nb Nc Nd Ne Nf Ng Nh Ni Nj Nk Nl Nm Nn No Np Nq Nr Ns Nt Nu Nv Nw Nx Ny Nz Qa Qb Qc Qd Qe Qf Qg Qh Qi Qj Qk Ql Qm Qn Qo Qp Qq Qr Qs Qt Qu Qv Qw Qx Qy Qz Ua Ub Uc Ud Ue Uf Ug Uh Ui Uj Uk Ul Um Un Uo Up Uq Ur Us Ut Uu Uv Uw Ux Uy Uz Va Vb Vc Vd Ve Vf Vg Vh Vi Vj Vk Vl Vm Vn Vo Vp Vq Vr Vs Vt Vu Vv Vw Vx Vy Vz Ya : HV⦄,rec0 y2 y7 y8 y9 S = some p → HR b w e 5 none [.inLoop c27,.inBlock 0,.code c84] ⟨[Ga,j,(Sl.hv y2),m,F,o,N,(.ptr y7),(.ptr y8),(.int .i64 y9),G,B,M,O,K,A,C,E,I,J,L,Q,U,V,Z,c,d,g,r,Kd,Ke,Kf,Kg,Kh,Ki,Kj,Kk,Kl,Km,Kn,Ko,Kp,Kq,Kr,Ks,Kt,Ku,Kv,Kw,Kx,Ky,Kz,Ma,Mb,Mc,Md,Me,Mf,Mg,Mh,Mi,Mj,Mk,Ml,Mm,Mn,Mo,Mp,Mq,Mr,Ms,Mt,Mu,Mv,Mw,Mx,My,Mz,Na,Nb,Nc,Nd,Ne,Nf,Ng,Nh,Ni,Nj,Nk,Nl,Nm,Nn,No,Np,Nq,Nr,Ns,Nt,Nu,Nv,Nw,Nx,Ny,Nz,Qa,Qb,Qc,Qd,Qe,Qf,Qg,Qh,Qi,Qj,Qk,Ql,Qm,Qn,Qo,Qp,Qq,Qr,Qs,Qt,Qu,Qv,Qw,Qx,Qy,Qz,Ua,Ub,Uc,Ud,Ue,Uf,Ug,Uh,Ui,Uj,Uk,Ul,Um,Un,Uo,Up,Uq,Ur,Us,Ut,Uu,Uv,Uw,Ux,Uy,Uz,Va,Vb,Vc,Vd,Ve,Vf,Vg,Vh,Vi,Vj,Vk,Vl,Vm,Vn,Vo,Vp,Vq,Vr,Vs,Vt,Vu,Vv,Vw,Vx,Vy,Vz,Ya],[]⟩ S (RR (.bool p.1) p.2)) {p : (Bool) × HS} (h : J7 D H k rec0 y2 y7 y8 y9 y10 y11 y13 y85 S = some p) : HR b w e 5 none [.inRegion r66 [10,11,12,13,14,15,16],.code c67,.inBlock 2,.code c72,.inBlock 1,.code c83,.inLoop c27,.inBlock 0,.code c84] ⟨[Ga,j,(Sl.hv y2),m,F,o,N,(.ptr y7),(.ptr y8),(.int .i64 y9),(.ptr y10),(.ptr y11),M,(.ptr y13),K,A,C,E,I,J,L,Q,U,V,Z,c,d,g,r,Kd,Ke,Kf,Kg,Kh,Ki,Kj,Kk,Kl,Km,Kn,Ko,Kp,Kq,Kr,Ks,Kt,Ku,Kv,Kw,Kx,Ky,Kz,Ma,Mb,Mc,Md,Me,Mf,Mg,Mh,Mi,Mj,Mk,Ml,Mm,Mn,Mo,Mp,Mq,Mr,Ms,Mt,Mu,Mv,Mw,Mx,My,Mz,Na,Nb,Nc,Nd,Ne,Nf,Ng,(.bool y85),Ni,Nj,Nk,Nl,Nm,Nn,No,Np,Nq,Nr,Ns,Nt,Nu,Nv,Nw,Nx,Ny,Nz,Qa,Qb,Qc,Qd,Qe,Qf,Qg,Qh,Qi,Qj,Qk,Ql,Qm,Qn,Qo,Qp,Qq,Qr,Qs,Qt,Qu,Qv,Qw,Qx,Qy,Qz,Ua,Ub,Uc,Ud,Ue,Uf,Ug,Uh,Ui,Uj,Uk,Ul,Um,Un,Uo,Up,Uq,Ur,Us,Ut,Uu,Uv,Uw,Ux,Uy,Uz,Va,Vb,Vc,Vd,Ve,Vf,Vg,Vh,Vi,Vj,Vk,Vl,Vm,Vn,Vo,Vp,Vq,Vr,Vs,Vt,Vu,Vv,Vw,Vx,Vy,Vz,Ya],[]⟩ S (RR (.bool p.1) p.2) := by
 unfold J7 at h
 refine uM 86 rfl rfl ?_
 rcases ifc h with ⟨hc85,h⟩ | ⟨hc85,h⟩
 ·refine Zxi (dst := some 87) (t := 86) rfl rfl rfl hc85 ?_
  try dsimp only [w0,w1,w2,w3]
  refine Zxi (dst := some 88) (t := 86) rfl rfl rfl hc85 (Zxi (dst := some 89) (t := 86) rfl rfl rfl hc85 (Zxi (dst := some 90) (t := 86) rfl rfl rfl hc85 (Zxi (dst := some 91) (t := 86) rfl rfl rfl hc85 ?_)))
  try dsimp only [w0,w1,w2,w3]
  refine qS 92 rfl (Zxh · (.tmp rfl) hc85 (.bool _)) (rE ?_)
  dsimp only [w0,w1,w2,w3]
  exact J8_snd hD hH hrec0 h
 ·refine qG 86 87 rfl (bfalse hc85) (oM · rfl) ?_
  try dsimp only [w0,w1,w2,w3]
  obtain ⟨p87,hp87,h⟩ := bindo h
  refine Zyp (t := 86) (dst := some 88) rfl rfl rfl (bfalse hc85) (.func _) (ev1 rfl) (HInv.static Y6.at_ Y6.body (Y6.snd  hp87)) ?_
  rintro _ _ ⟨rfl,rfl⟩
  obtain ⟨p88,hp88,h⟩ := bindo h
  refine qG 86 89 rfl (bfalse hc85) (oM · rfl) (Zyp (t := 86) (dst := some 90) rfl rfl rfl (bfalse hc85) (.func _) (ev1 rfl) (HInv.static Y43.at_ Y43.body (Y43.snd  hp88)) ?_)
  rintro _ _ ⟨rfl,rfl⟩
  refine qG 86 91 rfl (bfalse hc85) (Zzw · (.tmp rfl) (.tmp rfl) rfl) ?_
  try dsimp only [w0,w1,w2,w3]
  refine qS 92 rfl (Zxm · (.tmp rfl) (bfalse hc85) (.tmp rfl)) (rE ?_)
  dsimp only [w0,w1,w2,w3]
  exact J8_snd hD hH hrec0 h
def L4 (D : Dp) (H : Hd) (k : Nat) : Nat → Sl → HP → HP → Int → HS → Option ((Bool) × HS)
 | 0,_,_,_,_,_ => none
 | n + 1,y2,y7,y8,y9,S =>
  (if y9 < (Sl.len y2 : Int) then
  ((S.idx y2 y9 3).bind fun p12 =>
  ((S.ldI .i64 (HA.fld p12 0)).bind fun p13 =>
  ((S.ldI .i64 (HA.fld p12 1)).bind fun p14 =>
  ((S.ldS (HA.fld p12 2)).bind fun p15 =>
  (letv (HS.new S (.cells 3 [[(.int .i64 0),(.int .i64 0),(.str [])]] true)) fun p16 =>
  ((p16.sets (HA.cell0 S.next) [(.int .i64 p13),(.int .i64 p14),(.str p15)]).bind fun p17 =>
  ((p17.ldI .i64 (HA.fld (HA.cell0 S.next) 0)).bind fun p18 =>
  (if p18 = 1 then
  ((p17.ldI .i64 (HA.fld (HA.cell0 S.next) 1)).bind fun p20 =>
  ((p17.ldS (HA.fld (HA.cell0 S.next) 2)).bind fun p21 =>
  ((Y14.f D H k y7 p20 p21 p17).bind fun p22 =>
  ((p22.2.ldI .i64 (HA.fld (HA.cell0 S.next) 1)).bind fun p23 =>
  ((p17.ldI .i64 (HA.fld (HA.cell0 S.next) 1)).bind fun p24 =>
  (if p24 = p23 then
  ((p22.2.ldS (HA.fld (HA.cell0 S.next) 2)).bind fun p26 =>
  ((p17.ldS (HA.fld (HA.cell0 S.next) 2)).bind fun p27 =>
  (if p27 = p26 then
  ((Y5.f k y8 p23 p26 p22.2).bind fun p29 =>
  (if (!(p22.1 == p29.1)) = true then
  some (false,p29.2) else
  J5 D H k (L4 D H k n) y2 y7 y8 y9 (some (HA.cell0 S.next)) p29.2)) else none))) else none)))))) else
  (if p18 = 2 then
  ((p17.ldI .i64 (HA.fld (HA.cell0 S.next) 1)).bind fun p71 =>
  ((Y39.f D H k y7 p71 p17).bind fun p72 =>
  ((p72.2.ldI .i64 (HA.fld (HA.cell0 S.next) 1)).bind fun p73 =>
  ((p17.ldI .i64 (HA.fld (HA.cell0 S.next) 1)).bind fun p74 =>
  (if p74 = p73 then
  ((Y46.f k y8 p73 p72.2).bind fun p76 =>
  (if (!decide (p72.1 = p76.1)) = true then
  some (false,p76.2) else
  J5 D H k (L4 D H k n) y2 y7 y8 y9 (some (HA.cell0 S.next)) p76.2)) else none))))) else
  ((p17.ldI .i64 (HA.fld (HA.cell0 S.next) 1)).bind fun p78 =>
  ((p17.ldS (HA.fld (HA.cell0 S.next) 2)).bind fun p79 =>
  ((Y1.f D H k y7 p78 p79 p17).bind fun p80 =>
  ((p80.2.ldI .i64 (HA.fld (HA.cell0 S.next) 1)).bind fun p81 =>
  ((p80.2.ldS (HA.fld (HA.cell0 S.next) 2)).bind fun p82 =>
  ((Y10.f k y8 p81 p82 p80.2).bind fun p83 =>
  (if (!decide (p80.1.2 = p83.1.2)) = true then
  J7 D H k (L4 D H k n) y2 y7 y8 y9 (some (HA.cell0 S.next)) p80.1.1 p83.1.1 true p83.2 else
  J7 D H k (L4 D H k n) y2 y7 y8 y9 (some (HA.cell0 S.next)) p80.1.1 p83.1.1 (!((Option.isNone p80.1.1) == (Option.isNone p83.1.1))) p83.2)))))))))))))))) else
  some (true,S))
theorem L4_snd (hD : DS b w D) (hH : HT b w e H) : ∀ {n : Nat} ⦃y2 : Sl⦄ ⦃y7 : HP⦄ ⦃y8 : HP⦄ ⦃y9 : Int⦄ ⦃S : HS⦄ ⦃p : (Bool) × HS⦄ ⦃Ga j m F o N G B M O K A C E I J L Q U V Z c d g r Kd Ke Kf Kg Kh Ki Kj Kk Kl Km Kn Ko Kp Kq Kr Ks Kt Ku Kv Kw Kx Ky Kz Ma Mb Mc Md Me Mf Mg Mh Mi Mj Mk Ml Mm Mn Mo Mp Mq Mr Ms Mt Mu Mv Mw Mx My Mz Na Nb Nc Nd Ne Nf Ng Nh Ni Nj Nk Nl Nm Nn No Np Nq Nr Ns Nt Nu Nv Nw Nx Ny Nz Qa Qb Qc Qd Qe Qf Qg Qh Qi Qj Qk Ql Qm Qn Qo Qp Qq Qr Qs Qt Qu Qv Qw Qx Qy Qz Ua Ub Uc Ud Ue Uf Ug Uh Ui Uj Uk Ul Um Un Uo Up Uq Ur Us Ut Uu Uv Uw Ux Uy Uz Va Vb Vc Vd Ve Vf Vg Vh Vi Vj Vk Vl Vm Vn Vo Vp Vq Vr Vs Vt Vu Vv Vw Vx Vy Vz Ya : HV⦄,L4 D H k n y2 y7 y8 y9 S = some p → HR b w e 5 none [.inLoop c27,.inBlock 0,.code c84] ⟨[Ga,j,(Sl.hv y2),m,F,o,N,(.ptr y7),(.ptr y8),(.int .i64 y9),G,B,M,O,K,A,C,E,I,J,L,Q,U,V,Z,c,d,g,r,Kd,Ke,Kf,Kg,Kh,Ki,Kj,Kk,Kl,Km,Kn,Ko,Kp,Kq,Kr,Ks,Kt,Ku,Kv,Kw,Kx,Ky,Kz,Ma,Mb,Mc,Md,Me,Mf,Mg,Mh,Mi,Mj,Mk,Ml,Mm,Mn,Mo,Mp,Mq,Mr,Ms,Mt,Mu,Mv,Mw,Mx,My,Mz,Na,Nb,Nc,Nd,Ne,Nf,Ng,Nh,Ni,Nj,Nk,Nl,Nm,Nn,No,Np,Nq,Nr,Ns,Nt,Nu,Nv,Nw,Nx,Ny,Nz,Qa,Qb,Qc,Qd,Qe,Qf,Qg,Qh,Qi,Qj,Qk,Ql,Qm,Qn,Qo,Qp,Qq,Qr,Qs,Qt,Qu,Qv,Qw,Qx,Qy,Qz,Ua,Ub,Uc,Ud,Ue,Uf,Ug,Uh,Ui,Uj,Uk,Ul,Um,Un,Uo,Up,Uq,Ur,Us,Ut,Uu,Uv,Uw,Ux,Uy,Uz,Va,Vb,Vc,Vd,Ve,Vf,Vg,Vh,Vi,Vj,Vk,Vl,Vm,Vn,Vo,Vp,Vq,Vr,Vs,Vt,Vu,Vv,Vw,Vx,Vy,Vz,Ya],[]⟩ S (RR (.bool p.1) p.2) := by
 intro n
 induction n with
 | zero => intro _ _ _ _ _ _ _ _ _ _ _ _ _ _ _ _ _ _ _ _ _ _ _ _ _ _ _ _ _ _ _ _ _ _ _ _ _ _ _ _ _ _ _ _ _ _ _ _ _ _ _ _ _ _ _ _ _ _ _ _ _ _ _ _ _ _ _ _ _ _ _ _ _ _ _ _ _ _ _ _ _ _ _ _ _ _ _ _ _ _ _ _ _ _ _ _ _ _ _ _ _ _ _ _ _ _ _ _ _ _ _ _ _ _ _ _ _ _ _ _ _ _ _ _ _ _ _ _ _ _ _ _ _ _ _ _ _ _ _ _ _ _ _ _ _ _ _ _ _ _ _ _ _ _ _ _ _ _ _ _ _ _ _ _ _ _ _ _ _ _ _ _ _ _ _ _ _ _ _ _ _ _ _ _ _ h; cases h
 | succ n ih =>
  intro y2 y7 y8 y9 S p Ga j m F o N G B M O K A C E I J L Q U V Z c d g r Kd Ke Kf Kg Kh Ki Kj Kk Kl Km Kn Ko Kp Kq Kr Ks Kt Ku Kv Kw Kx Ky Kz Ma Mb Mc Md Me Mf Mg Mh Mi Mj Mk Ml Mm Mn Mo Mp Mq Mr Ms Mt Mu Mv Mw Mx My Mz Na Nb Nc Nd Ne Nf Ng Nh Ni Nj Nk Nl Nm Nn No Np Nq Nr Ns Nt Nu Nv Nw Nx Ny Nz Qa Qb Qc Qd Qe Qf Qg Qh Qi Qj Qk Ql Qm Qn Qo Qp Qq Qr Qs Qt Qu Qv Qw Qx Qy Qz Ua Ub Uc Ud Ue Uf Ug Uh Ui Uj Uk Ul Um Un Uo Up Uq Ur Us Ut Uu Uv Uw Ux Uy Uz Va Vb Vc Vd Ve Vf Vg Vh Vi Vj Vk Vl Vm Vn Vo Vp Vq Vr Vs Vt Vu Vv Vw Vx Vy Vz Ya h
  simp only [L4] at h
  refine Zxz (qQ rfl (qT rfl rfl rfl (uM 46 rfl rfl (uM 47 rfl rfl (qS 48 rfl (Zxg (q := Sl.a y2) (n := Sl.len y2) (z := Sl.cap y2) · rfl tu22 (.tmp rfl)) (uB 49 rfl rfl rfl rfl (rE ?_)))))))
  dsimp only [w0,w1,w2,w3]
  rcases ifc h with ⟨hc11,h⟩ | ⟨hc11,h⟩
  ·obtain ⟨p12,hp12,p13,hp13,p14,hp14,p15,hp15,h⟩ := bd4 h
   refine Zxb rfl (.tmp rfl) (decide_eq_true hc11) (Zxd rfl (qQ rfl (Zxo rfl (qT rfl rfl rfl (uM 52 rfl rfl (uM 53 rfl rfl (qS 54 rfl (oX (s := y2) · tu22 sz34 rfl rfl hp12) (qS 55 rfl (Zyl (vs := [(.int .i64 p13),(.int .i64 p14),(.str p15)]) · ia34 (.tmp rfl) rfl ⟨Zxq hp13,Zxq hp14,Zx4 hp15,trivial⟩ (by simp)) ?_))))))))
   try dsimp only [w0,w1,w2,w3]
   obtain ⟨p16,hp16,h⟩ := leto h
   obtain ⟨p17,hp17,h⟩ := bindo h
   refine qS 10 rfl (Zx9 · zi34 zr34 (by decide) rfl hp16) (qN rfl (Zxk (v := (.agg [(.int .i64 p13),(.int .i64 p14),(.str p15)])) · sz34 (.tmp rfl) rfl (.tmp rfl) rfl hp17) (rE ?_))
   dsimp only [w0,w1,w2,w3]
   obtain ⟨p18,hp18,h⟩ := bindo h
   refine qQ rfl (qT rfl rfl rfl (uF 56 rfl fi34_0 (by decide) rfl rfl (uL 57 rfl sc3 rfl rfl (Zxq hp18) (rE ?_))))
   dsimp only [w0,w1,w2,w3]
   refine Zxo rfl (qT rfl rfl rfl (uC 94 rfl rfl rfl (uA 93 rfl rfl (rE ?_))))
   dsimp only [w0,w1,w2,w3]
   rcases ifc h with ⟨hc19,h⟩ | ⟨hc19,h⟩
   ·refine Zxb rfl (.tmp rfl) (decide_eq_true hc19) (qQ rfl ?_)
    refine Zx8 (cls := [0,0,1,0,1,2,0,0,3,0,3,2,0]) (rk := [0,1,2,3,4,5,6,7,8,9,10,11,12]) rfl (by kernel_rfl) ?_
    refine xf 95 [7] rfl (oM · rfl) ?_
    refine xf 96 [10] rfl (oF · Zaa5 (by decide) rfl rfl) ?_
    obtain ⟨p20,hp20,h⟩ := bindo h
    refine xr 97 [96] rfl (oL · sc3 rfl rfl (Zxq hp20)) ?_
    refine xf 98 [10] rfl (oF · Zac0 (by decide) rfl rfl) ?_
    try dsimp only [w0,w1,w2,w3]
    obtain ⟨p21,hp21,h⟩ := bindo h
    refine xr 99 [98] rfl (oL · sc9 rfl rfl (Zx4 hp21)) ?_
    obtain ⟨p22,hp22,h⟩ := bindo h
    refine Zzc (Zaa3 (dst := some 100) (ts := [95,97,99]) rfl (by kernel_rfl) (.func _) (ev3 rfl rfl rfl) (HInv.static Y14.at_ Y14.body (Y14.snd hD hH hp22))) rfl trivial ?_
    refine xf 101 [8] rfl (oM · rfl) ?_
    refine xf 102 [10] rfl (oF · Zaa5 (by decide) rfl rfl) ?_
    try dsimp only [w0,w1,w2,w3]
    obtain ⟨p23,hp23,p24,hp24,h⟩ := bd2 h
    obtain ⟨hg25,h⟩ := gd h
    refine Zx3 (r_op (dst := some 103) (ts := [102]) rfl (by intro _ _ h; cases h) (by kernel_rfl) (fun _ ho => Zxs ho sc3 (.tmp rfl) rfl (Zxq hp23))) rfl ⟨.inr (l_op (dst := some 103) (ts := [102]) rfl (by intro _ _ h; cases h) (by kernel_rfl) (fun _ ho => Zxs ho sc3 (.tmp rfl) rfl (Zxq (hp24.trans (congrArg some hg25))))),trivial⟩ ?_
    refine xf 104 [10] rfl (oF · Zac0 (by decide) rfl rfl) ?_
    obtain ⟨p26,hp26,p27,hp27,h⟩ := bd2 h
    obtain ⟨hg28,h⟩ := gd h
    refine Zx3 (r_op (dst := some 105) (ts := [104]) rfl (by intro _ _ h; cases h) (by kernel_rfl) (fun _ ho => Zxs ho sc9 (.tmp rfl) rfl (Zx4 hp26))) rfl ⟨.inr (l_op (dst := some 105) (ts := [104]) rfl (by intro _ _ h; cases h) (by kernel_rfl) (fun _ ho => Zxs ho sc9 (.tmp rfl) rfl (Zx4 (hp27.trans (congrArg some hg28))))),trivial⟩ ?_
    obtain ⟨p29,hp29,h⟩ := bindo h
    refine Zzc (Zaa3 (dst := some 106) (ts := [101,103,105]) rfl (by kernel_rfl) (.func _) (ev3 rfl rfl rfl) (HInv.static Y5.at_ Y5.body (Y5.snd  hp29))) rfl ⟨.inl (by kernel_rfl),.inl (by kernel_rfl),trivial⟩ ?_
    try dsimp only [w0,w1,w2,w3]
    refine xf 107 [100,106] rfl (Zaig · tu4 (.inr ⟨rfl,rfl⟩) (.tmp rfl) (.tmp rfl)) ?_
    refine Zx5 rfl ?_
    refine rE ?_
    try dsimp only [w0,w1,w2,w3]
    rcases ifc h with ⟨hc30,h⟩ | ⟨hc30,h⟩
    ·refine Zxb rfl (.tmp rfl) hc30 (qT rfl rfl rfl (qS 6 rfl (Zxa · (.bool _)) (rE ?_)))
     cases h
     exact Zxl rfl at_.at_ rfl (res1 rfl rfl) ⟨rfl,rfl⟩
    ·refine Zxc rfl (.tmp rfl) (bfalse hc30) (Zxd rfl (Zxf ?_))
     try dsimp only [w0,w1,w2,w3]
     exact J5_snd hD hH ih h
   ·refine Zxc rfl (.tmp rfl) (decide_eq_false hc19) (qT rfl rfl rfl (uC 109 rfl rfl rfl (uA 108 rfl rfl (rE ?_))))
    dsimp only [w0,w1,w2,w3]
    rcases ifc h with ⟨hc70,h⟩ | ⟨hc70,h⟩
    ·refine Zxb rfl (.tmp rfl) (decide_eq_true hc70) (qQ rfl ?_)
     refine Zx8 (cls := [0,0,1,2,0,0,3,2,0]) (rk := [0,1,2,3,4,5,6,7,8]) rfl (by kernel_rfl) ?_
     refine xf 110 [7] rfl (oM · rfl) ?_
     refine xf 111 [10] rfl (oF · Zaa5 (by decide) rfl rfl) ?_
     obtain ⟨p71,hp71,h⟩ := bindo h
     refine xr 112 [111] rfl (oL · sc3 rfl rfl (Zxq hp71)) ?_
     obtain ⟨p72,hp72,h⟩ := bindo h
     refine Zzc (Zaa3 (dst := some 113) (ts := [110,112]) rfl (by kernel_rfl) (.func _) (ev2 rfl rfl) (HInv.static Y39.at_ Y39.body (Y39.snd hD hH hp72))) rfl trivial ?_
     try dsimp only [w0,w1,w2,w3]
     refine xf 114 [8] rfl (oM · rfl) ?_
     refine xf 115 [10] rfl (oF · Zaa5 (by decide) rfl rfl) ?_
     obtain ⟨p73,hp73,p74,hp74,h⟩ := bd2 h
     obtain ⟨hg75,h⟩ := gd h
     refine Zx3 (r_op (dst := some 116) (ts := [115]) rfl (by intro _ _ h; cases h) (by kernel_rfl) (fun _ ho => Zxs ho sc3 (.tmp rfl) rfl (Zxq hp73))) rfl ⟨.inr (l_op (dst := some 116) (ts := [115]) rfl (by intro _ _ h; cases h) (by kernel_rfl) (fun _ ho => Zxs ho sc3 (.tmp rfl) rfl (Zxq (hp74.trans (congrArg some hg75))))),trivial⟩ ?_
     obtain ⟨p76,hp76,h⟩ := bindo h
     refine Zzc (Zaa3 (dst := some 117) (ts := [114,116]) rfl (by kernel_rfl) (.func _) (ev2 rfl rfl) (HInv.static Y46.at_ Y46.body (Y46.snd  hp76))) rfl ⟨.inl (by kernel_rfl),trivial⟩ ?_
     try dsimp only [w0,w1,w2,w3]
     refine xf 118 [113,117] rfl (oB · rfl rfl rfl) ?_
     refine Zx5 rfl ?_
     refine rE ?_
     try dsimp only [w0,w1,w2,w3]
     rcases ifc h with ⟨hc77,h⟩ | ⟨hc77,h⟩
     ·refine Zxb rfl (.tmp rfl) hc77 (qT rfl rfl rfl (qS 6 rfl (Zxa · (.bool _)) (rE ?_)))
      cases h
      exact Zxl rfl at_.at_ rfl (res1 rfl rfl) ⟨rfl,rfl⟩
     ·refine Zxc rfl (.tmp rfl) (bfalse hc77) (Zxd rfl (Zxf ?_))
      try dsimp only [w0,w1,w2,w3]
      exact J5_snd hD hH ih h
    ·obtain ⟨p78,hp78,h⟩ := bindo h
     refine Zxc rfl (.tmp rfl) (decide_eq_false hc70) (qT rfl rfl rfl (uM 59 rfl rfl (uF 60 rfl Zaa5 (by decide) rfl rfl (uL 61 rfl sc3 rfl rfl (Zxq hp78) (uF 62 rfl Zac0 (by decide) rfl rfl ?_)))))
     try dsimp only [w0,w1,w2,w3]
     obtain ⟨p79,hp79,p80,hp80,h⟩ := bd2 h
     refine uL 63 rfl sc9 rfl rfl (Zx4 hp79) (uQ 64 rfl (.func _) (ev3 rfl rfl rfl) (HInv.static Y1.at_ Y1.body (Y1.snd hD hH hp80)) (uM 58 rfl rfl (qS 65 rfl (Zxr · (.tmp rfl) rfl) ?_)))
     try dsimp only [w0,w1,w2,w3]
     refine qS 66 rfl (Zxr · (.tmp rfl) rfl) (uA 11 rfl rfl (uA 12 rfl rfl (rE ?_)))
     dsimp only [w0,w1,w2,w3]
     obtain ⟨p81,hp81,h⟩ := bindo h
     refine qT rfl rfl rfl (uM 68 rfl rfl (uF 69 rfl Zaa5 (by decide) rfl rfl (uL 70 rfl sc3 rfl rfl (Zxq hp81) (uF 71 rfl Zac0 (by decide) rfl rfl ?_))))
     try dsimp only [w0,w1,w2,w3]
     obtain ⟨p82,hp82,p83,hp83,h⟩ := bd2 h
     refine uL 72 rfl sc9 rfl rfl (Zx4 hp82) (uQ 73 rfl (.func _) (ev3 rfl rfl rfl) (HInv.static Y10.at_ Y10.body (Y10.snd  hp83)) (uM 67 rfl rfl (qS 74 rfl (Zxr · (.tmp rfl) rfl) ?_)))
     try dsimp only [w0,w1,w2,w3]
     refine qS 75 rfl (Zxr · (.tmp rfl) rfl) (uA 13 rfl rfl (uA 14 rfl rfl (rE ?_)))
     dsimp only [w0,w1,w2,w3]
     refine qT rfl rfl rfl (uM 76 rfl rfl (uM 77 rfl rfl (uB 78 rfl rfl rfl rfl (uM 79 rfl rfl ?_))))
     try dsimp only [w0,w1,w2,w3]
     rcases ifc h with ⟨hc84,h⟩ | ⟨hc84,h⟩
     ·refine Zxi (dst := some 80) (t := 79) rfl rfl rfl hc84 (Zxi (dst := some 81) (t := 79) rfl rfl rfl hc84 (Zxi (dst := some 82) (t := 79) rfl rfl rfl hc84 (Zxi (dst := some 83) (t := 79) rfl rfl rfl hc84 ?_)))
      try dsimp only [w0,w1,w2,w3]
      refine Zxi (dst := some 84) (t := 79) rfl rfl rfl hc84 (qS 85 rfl (Zxh · (.tmp rfl) hc84 (.bool _)) ?_)
      try dsimp only [w0,w1,w2,w3]
      exact J7_snd hD hH ih h
     ·refine qG 79 80 rfl (bfalse hc84) (oM · rfl) (qG 79 81 rfl (bfalse hc84) (Zxt · tu36 (.tmp rfl) (.inl ⟨rfl,rfl⟩)) (qG 79 82 rfl (bfalse hc84) (oM · rfl) (qG 79 83 rfl (bfalse hc84) (Zxt · tu39 (.tmp rfl) (.inl ⟨rfl,rfl⟩)) ?_)))
      try dsimp only [w0,w1,w2,w3]
      refine qG 79 84 rfl (bfalse hc84) (Zaig · tu4 (.inr ⟨rfl,rfl⟩) (.tmp rfl) (.tmp rfl)) (qS 85 rfl (Zxm · (.tmp rfl) (bfalse hc84) (.tmp rfl)) ?_)
      try dsimp only [w0,w1,w2,w3]
      exact J7_snd hD hH ih h
  ·refine Zxc rfl (.tmp rfl) (decide_eq_false hc11) (Zyh rfl rfl (qT rfl rfl rfl (qS 6 rfl (Zxa · (.bool _)) (rE ?_))))
   cases h
   exact Zxl rfl at_.at_ rfl (res1 rfl rfl) ⟨rfl,rfl⟩
def J3 (D : Dp) (H : Hd) (k : Nat) (y0 : Int) (y1 : Int) (y2 : Sl) (y37 : Bool) (S : HS) : Option ((Bool) × HS) :=
 (if y37 = true then
 some (true,S) else
 ((Y30.f [] [] [] [] 0 0 y1 y0 3 0 0 0 0 0 0 S).bind fun p9 =>
 (letv (HS.new p9.2 (.cells 4 [[(.int .i64 y0),(.int .i64 y1),(.int .i64 3),(Sl.hv Sl.nil)]] true)) fun p10 =>
 L4 D H k k y2 p9.1 (some (HA.cell0 p9.2.next)) 0 p10)))
theorem J3_snd (hD : DS b w D) (hH : HT b w e H) {p : (Bool) × HS} (h : J3 D H k y0 y1 y2 y37 S = some p) : HR b w e 5 none [.code c13,.code c18] ⟨[(.int .i64 y0),(.int .i64 y1),(Sl.hv y2),m,F,o,N,Gh,i,a,G,B,M,O,K,A,C,E,I,J,L,Q,U,V,Z,c,d,g,r,Kd,Ke,Kf,Kg,Kh,Ki,Kj,Kk,(.bool y37),Km,Kn,Ko,Kp,Kq,Kr,Ks,Kt,Ku,Kv,Kw,Kx,Ky,Kz,Ma,Mb,Mc,Md,Me,Mf,Mg,Mh,Mi,Mj,Mk,Ml,Mm,Mn,Mo,Mp,Mq,Mr,Ms,Mt,Mu,Mv,Mw,Mx,My,Mz,Na,Nb,Nc,Nd,Ne,Nf,Ng,Nh,Ni,Nj,Nk,Nl,Nm,Nn,No,Np,Nq,Nr,Ns,Nt,Nu,Nv,Nw,Nx,Ny,Nz,Qa,Qb,Qc,Qd,Qe,Qf,Qg,Qh,Qi,Qj,Qk,Ql,Qm,Qn,Qo,Qp,Qq,Qr,Qs,Qt,Qu,Qv,Qw,Qx,Qy,Qz,Ua,Ub,Uc,Ud,Ue,Uf,Ug,Uh,Ui,Uj,Uk,Ul,Um,Un,Uo,Up,Uq,Ur,Us,Ut,Uu,Uv,Uw,Ux,Uy,Uz,Va,Vb,Vc,Vd,Ve,Vf,Vg,Vh,Vi,Vj,Vk,Vl,Vm,Vn,Vo,Vp,Vq,Vr,Vs,Vt,Vu,Vv,Vw,Vx,Vy,Vz,Ya],[]⟩ S (RR (.bool p.1) p.2) := by
 unfold J3 at h
 rcases ifc h with ⟨hc8,h⟩ | ⟨hc8,h⟩
 ·refine Zxb rfl (.tmp rfl) hc8 (qT rfl rfl rfl (qS 6 rfl (Zxa · (.bool _)) (rE ?_)))
  cases h
  exact Zxl rfl at_.at_ rfl (res1 rfl rfl) ⟨rfl,rfl⟩
 ·obtain ⟨p9,hp9,h⟩ := bindo h
  refine Zxc rfl (.tmp rfl) (bfalse hc8) (Zxd rfl (qT rfl rfl rfl (uM 38 rfl rfl (uM 39 rfl rfl (qS 40 rfl (Zy1 (is := [7,6,8]) (xs := [(.tmp 38),(.tmp 39),(.const (.int .i64 3))]) (r := [(.str []),(.str []),(.str []),(.str []),(.int .i64 0),(.int .i64 0),(.int .i64 y1),(.int .i64 y0),(.int .i64 3),(.int .i64 0),(.int .i64 0),(.int .i64 0),(.int .i64 0),(.int .i64 0),(.int .i64 0)]) st28 · rfl rfl (.cons (.tmp rfl) (.cons (.tmp rfl) (.cons (.int _ _) Evs.nil))) rfl) (uQ 41 rfl (.func _) (ev1 rfl) (HInv.static Y30.at_ Y30.body (Y30.snd  hp9)) ?_))))))
  try dsimp only [w0,w1,w2,w3]
  refine uA 7 rfl rfl (rE ?_)
  dsimp only [w0,w1,w2,w3]
  obtain ⟨p10,hp10,h⟩ := leto h
  refine qT rfl rfl rfl (uM 42 rfl rfl (uM 43 rfl rfl (qS 44 rfl (Zy1 (is := [0,1,2]) (xs := [(.tmp 42),(.tmp 43),(.const (.int .i64 3))]) (r := [(.int .i64 y0),(.int .i64 y1),(.int .i64 3),(Sl.hv Sl.nil)]) st32 · rfl rfl (.cons (.tmp rfl) (.cons (.tmp rfl) (.cons (.int _ _) Evs.nil))) rfl) (qS 45 rfl (Zyf · (.tmp rfl) (Yav _) rfl hp10) ?_))))
  try dsimp only [w0,w1,w2,w3]
  refine uA 8 rfl rfl (rE ?_)
  dsimp only [w0,w1,w2,w3]
  refine qQ rfl (qT rfl rfl rfl (qS 9 rfl (Zxa · (.int _ _)) (rE ?_)))
  dsimp only [w0,w1,w2,w3]
  refine Zxo rfl (Zye rfl ?_)
  try dsimp only [w0,w1,w2,w3]
  exact L4_snd hD hH h
def J2 (D : Dp) (H : Hd) (k : Nat) (y0 : Int) (y1 : Int) (y2 : Sl) (y33 : Bool) (S : HS) : Option ((Bool) × HS) :=
 (if y33 = true then
 J3 D H k y0 y1 y2 true S else
 J3 D H k y0 y1 y2 (decide (y1 > 1000)) S)
theorem J2_snd (hD : DS b w D) (hH : HT b w e H) {p : (Bool) × HS} (h : J2 D H k y0 y1 y2 y33 S = some p) : HR b w e 5 none [.inRegion r12 [14,15,16,17],.code c13,.code c18] ⟨[(.int .i64 y0),(.int .i64 y1),(Sl.hv y2),m,F,o,N,Gh,i,a,G,B,M,O,K,A,C,E,I,J,L,Q,U,V,Z,c,d,g,r,Kd,Ke,Kf,Kg,(.bool y33),Ki,Kj,Kk,Kl,Km,Kn,Ko,Kp,Kq,Kr,Ks,Kt,Ku,Kv,Kw,Kx,Ky,Kz,Ma,Mb,Mc,Md,Me,Mf,Mg,Mh,Mi,Mj,Mk,Ml,Mm,Mn,Mo,Mp,Mq,Mr,Ms,Mt,Mu,Mv,Mw,Mx,My,Mz,Na,Nb,Nc,Nd,Ne,Nf,Ng,Nh,Ni,Nj,Nk,Nl,Nm,Nn,No,Np,Nq,Nr,Ns,Nt,Nu,Nv,Nw,Nx,Ny,Nz,Qa,Qb,Qc,Qd,Qe,Qf,Qg,Qh,Qi,Qj,Qk,Ql,Qm,Qn,Qo,Qp,Qq,Qr,Qs,Qt,Qu,Qv,Qw,Qx,Qy,Qz,Ua,Ub,Uc,Ud,Ue,Uf,Ug,Uh,Ui,Uj,Uk,Ul,Um,Un,Uo,Up,Uq,Ur,Us,Ut,Uu,Uv,Uw,Ux,Uy,Uz,Va,Vb,Vc,Vd,Ve,Vf,Vg,Vh,Vi,Vj,Vk,Vl,Vm,Vn,Vo,Vp,Vq,Vr,Vs,Vt,Vu,Vv,Vw,Vx,Vy,Vz,Ya],[]⟩ S (RR (.bool p.1) p.2) := by
 unfold J2 at h
 refine uM 34 rfl rfl ?_
 rcases ifc h with ⟨hc7,h⟩ | ⟨hc7,h⟩
 ·refine Zxi (dst := some 35) (t := 34) rfl rfl rfl hc7 ?_
  try dsimp only [w0,w1,w2,w3]
  refine Zxi (dst := some 36) (t := 34) rfl rfl rfl hc7 (qS 37 rfl (Zxh · (.tmp rfl) hc7 (.bool _)) (rE ?_))
  dsimp only [w0,w1,w2,w3]
  exact J3_snd hD hH h
 ·refine qG 34 35 rfl (bfalse hc7) (oM · rfl) ?_
  try dsimp only [w0,w1,w2,w3]
  refine qG 34 36 rfl (bfalse hc7) (oC · rfl rfl) (qS 37 rfl (Zxm · (.tmp rfl) (bfalse hc7) (.tmp rfl)) (rE ?_))
  dsimp only [w0,w1,w2,w3]
  exact J3_snd hD hH h
def J1 (D : Dp) (H : Hd) (k : Nat) (y0 : Int) (y1 : Int) (y2 : Sl) (y29 : Bool) (S : HS) : Option ((Bool) × HS) :=
 (if y29 = true then
 J2 D H k y0 y1 y2 true S else
 J2 D H k y0 y1 y2 (decide (y0 > 1000)) S)
theorem J1_snd (hD : DS b w D) (hH : HT b w e H) {p : (Bool) × HS} (h : J1 D H k y0 y1 y2 y29 S = some p) : HR b w e 5 none [.inRegion r12 [10,11,12,13,14,15,16,17],.code c13,.code c18] ⟨[(.int .i64 y0),(.int .i64 y1),(Sl.hv y2),m,F,o,N,Gh,i,a,G,B,M,O,K,A,C,E,I,J,L,Q,U,V,Z,c,d,g,r,(.bool y29),Ke,Kf,Kg,Kh,Ki,Kj,Kk,Kl,Km,Kn,Ko,Kp,Kq,Kr,Ks,Kt,Ku,Kv,Kw,Kx,Ky,Kz,Ma,Mb,Mc,Md,Me,Mf,Mg,Mh,Mi,Mj,Mk,Ml,Mm,Mn,Mo,Mp,Mq,Mr,Ms,Mt,Mu,Mv,Mw,Mx,My,Mz,Na,Nb,Nc,Nd,Ne,Nf,Ng,Nh,Ni,Nj,Nk,Nl,Nm,Nn,No,Np,Nq,Nr,Ns,Nt,Nu,Nv,Nw,Nx,Ny,Nz,Qa,Qb,Qc,Qd,Qe,Qf,Qg,Qh,Qi,Qj,Qk,Ql,Qm,Qn,Qo,Qp,Qq,Qr,Qs,Qt,Qu,Qv,Qw,Qx,Qy,Qz,Ua,Ub,Uc,Ud,Ue,Uf,Ug,Uh,Ui,Uj,Uk,Ul,Um,Un,Uo,Up,Uq,Ur,Us,Ut,Uu,Uv,Uw,Ux,Uy,Uz,Va,Vb,Vc,Vd,Ve,Vf,Vg,Vh,Vi,Vj,Vk,Vl,Vm,Vn,Vo,Vp,Vq,Vr,Vs,Vt,Vu,Vv,Vw,Vx,Vy,Vz,Ya],[]⟩ S (RR (.bool p.1) p.2) := by
 unfold J1 at h
 refine uM 30 rfl rfl ?_
 rcases ifc h with ⟨hc6,h⟩ | ⟨hc6,h⟩
 ·refine Zxi (dst := some 31) (t := 30) rfl rfl rfl hc6 ?_
  try dsimp only [w0,w1,w2,w3]
  refine Zxi (dst := some 32) (t := 30) rfl rfl rfl hc6 (qS 33 rfl (Zxh · (.tmp rfl) hc6 (.bool _)) ?_)
  try dsimp only [w0,w1,w2,w3]
  exact J2_snd hD hH h
 ·refine qG 30 31 rfl (bfalse hc6) (oM · rfl) ?_
  try dsimp only [w0,w1,w2,w3]
  refine qG 30 32 rfl (bfalse hc6) (oC · rfl rfl) (qS 33 rfl (Zxm · (.tmp rfl) (bfalse hc6) (.tmp rfl)) ?_)
  try dsimp only [w0,w1,w2,w3]
  exact J2_snd hD hH h
def J0 (D : Dp) (H : Hd) (k : Nat) (y0 : Int) (y1 : Int) (y2 : Sl) (y25 : Bool) (S : HS) : Option ((Bool) × HS) :=
 (if y25 = true then
 J1 D H k y0 y1 y2 true S else
 J1 D H k y0 y1 y2 (decide (y1 < 0)) S)
theorem J0_snd (hD : DS b w D) (hH : HT b w e H) {p : (Bool) × HS} (h : J0 D H k y0 y1 y2 y25 S = some p) : HR b w e 5 none [.inRegion r12 [6,7,8,9,10,11,12,13,14,15,16,17],.code c13,.code c18] ⟨[(.int .i64 y0),(.int .i64 y1),(Sl.hv y2),m,F,o,N,Gh,i,a,G,B,M,O,K,A,C,E,I,J,L,Q,U,V,Z,(.bool y25),d,g,r,Kd,Ke,Kf,Kg,Kh,Ki,Kj,Kk,Kl,Km,Kn,Ko,Kp,Kq,Kr,Ks,Kt,Ku,Kv,Kw,Kx,Ky,Kz,Ma,Mb,Mc,Md,Me,Mf,Mg,Mh,Mi,Mj,Mk,Ml,Mm,Mn,Mo,Mp,Mq,Mr,Ms,Mt,Mu,Mv,Mw,Mx,My,Mz,Na,Nb,Nc,Nd,Ne,Nf,Ng,Nh,Ni,Nj,Nk,Nl,Nm,Nn,No,Np,Nq,Nr,Ns,Nt,Nu,Nv,Nw,Nx,Ny,Nz,Qa,Qb,Qc,Qd,Qe,Qf,Qg,Qh,Qi,Qj,Qk,Ql,Qm,Qn,Qo,Qp,Qq,Qr,Qs,Qt,Qu,Qv,Qw,Qx,Qy,Qz,Ua,Ub,Uc,Ud,Ue,Uf,Ug,Uh,Ui,Uj,Uk,Ul,Um,Un,Uo,Up,Uq,Ur,Us,Ut,Uu,Uv,Uw,Ux,Uy,Uz,Va,Vb,Vc,Vd,Ve,Vf,Vg,Vh,Vi,Vj,Vk,Vl,Vm,Vn,Vo,Vp,Vq,Vr,Vs,Vt,Vu,Vv,Vw,Vx,Vy,Vz,Ya],[]⟩ S (RR (.bool p.1) p.2) := by
 unfold J0 at h
 refine uM 26 rfl rfl ?_
 rcases ifc h with ⟨hc5,h⟩ | ⟨hc5,h⟩
 ·refine Zxi (dst := some 27) (t := 26) rfl rfl rfl hc5 ?_
  try dsimp only [w0,w1,w2,w3]
  refine Zxi (dst := some 28) (t := 26) rfl rfl rfl hc5 (qS 29 rfl (Zxh · (.tmp rfl) hc5 (.bool _)) ?_)
  try dsimp only [w0,w1,w2,w3]
  exact J1_snd hD hH h
 ·refine qG 26 27 rfl (bfalse hc5) (oM · rfl) ?_
  try dsimp only [w0,w1,w2,w3]
  refine qG 26 28 rfl (bfalse hc5) (oC · rfl rfl) (qS 29 rfl (Zxm · (.tmp rfl) (bfalse hc5) (.tmp rfl)) ?_)
  try dsimp only [w0,w1,w2,w3]
  exact J1_snd hD hH h
def f (D : Dp) (H : Hd) (k : Nat) (x0 : Int) (x1 : Int) (x2 : Sl) (S : HS) : Option ((Bool) × HS) :=
 ((aw.f S).bind fun p1 =>
 (if (!p1.1) = true then
 some (false,p1.2) else
 ((Y51.f k x2 p1.2).bind fun p3 =>
 (if p3.1 = true then
 J0 D H k x0 x1 x2 true p3.2 else
 J0 D H k x0 x1 x2 (decide (x0 < 0)) p3.2))))
theorem snd {x0 : Int} {x1 : Int} {x2 : Sl} (hD : DS b w D) (hH : HT b w e H) {p : (Bool) × HS} (h : f D H k x0 x1 x2 S = some p) : HC b w e 5 [(.int .i64 x0),(.int .i64 x1),(Sl.hv x2)] S (RR (.bool p.1) p.2) := by
 unfold f at h
 refine HCall.of_run at_.at_ body ?_
 show HR b w e 5 none [.code c0] ⟨[(.int .i64 x0),(.int .i64 x1),(Sl.hv x2),z,z,z,z,z,z,z,z,z,z,z,z,z,z,z,z,z,z,z,z,z,z,z,z,z,z,z,z,z,z,z,z,z,z,z,z,z,z,z,z,z,z,z,z,z,z,z,z,z,z,z,z,z,z,z,z,z,z,z,z,z,z,z,z,z,z,z,z,z,z,z,z,z,z,z,z,z,z,z,z,z,z,z,z,z,z,z,z,z,z,z,z,z,z,z,z,z,z,z,z,z,z,z,z,z,z,z,z,z,z,z,z,z,z,z,z,z,z,z,z,z,z,z,z,z,z,z,z,z,z,z,z,z,z,z,z,z,z,z,z,z,z,z,z,z,z,z,z,z,z,z,z,z,z,z,z,z,z,z,z,z,z,z,z,z,z,z,z,z,z,z,z,z,z,z,z,z,z,z,z],[]⟩ S _
 refine qT rfl rfl rfl (qS 6 rfl (Zxa · (.bool _)) (rE ?_))
 dsimp only [w0,w1,w2,w3]
 obtain ⟨p1,hp1,h⟩ := bindo h
 refine qQ rfl (qT rfl rfl rfl (uQ 18 rfl (.func _) Evs.nil (HInv.static Y99.at_ Y99.body (aw.snd hp1)) (qS 19 rfl (Zys · (.tmp rfl)) (rE ?_))))
 dsimp only [w0,w1,w2,w3]
 rcases ifc h with ⟨hc2,h⟩ | ⟨hc2,h⟩
 ·refine Zxb rfl (.tmp rfl) hc2 (qT rfl rfl rfl (qS 6 rfl (Zxa · (.bool _)) (rE ?_)))
  cases h
  exact Zxl rfl at_.at_ rfl (res1 rfl rfl) ⟨rfl,rfl⟩
 ·obtain ⟨p3,hp3,h⟩ := bindo h
  refine Zxc rfl (.tmp rfl) (bfalse hc2) (Zxd rfl (qQ rfl (qT rfl rfl rfl (uM 20 rfl rfl (uQ 21 rfl (.func _) (ev1 rfl) (HInv.static Y51.at_ Y51.body (Y51.snd  hp3)) (uM 22 rfl rfl ?_))))))
  rcases ifc h with ⟨hc4,h⟩ | ⟨hc4,h⟩
  ·refine Zxi (dst := some 23) (t := 22) rfl rfl rfl hc4 ?_
   try dsimp only [w0,w1,w2,w3]
   refine Zxi (dst := some 24) (t := 22) rfl rfl rfl hc4 (qS 25 rfl (Zxh · (.tmp rfl) hc4 (.bool _)) ?_)
   try dsimp only [w0,w1,w2,w3]
   exact J0_snd hD hH h
  ·refine qG 22 23 rfl (bfalse hc4) (oM · rfl) ?_
   try dsimp only [w0,w1,w2,w3]
   refine qG 22 24 rfl (bfalse hc4) (oC · rfl rfl) (qS 25 rfl (Zxm · (.tmp rfl) (bfalse hc4) (.tmp rfl)) ?_)
   try dsimp only [w0,w1,w2,w3]
   exact J0_snd hD hH h
end Y2
end
end Go.Proofs.YtbmfomkfmpppiaaGreat.X
namespace Go.Proofs.YtbmfomkfmpppiaaGreat.X
open Go.Proofs.YtbmfomkfmpppiaaGreat.HL
set_option linter.unusedVariables false
theorem vec_keep {n z : Nat} {T T' : HS} {s : Sl} {rows : List (List HV)} (h : Vec n T z s rows) (he : ∀ q,s.a = some q → T'.heap q.1 = T.heap q.1) (hn : T.next ≤ T'.next) : Vec n T' z s rows := by
 cases h with
 | nil => exact .nil
 | open_ g1 g2 g3 => exact .open_ ((he _ rfl).trans g1) g2 (Yai g3 hn)
 | capped g1 g2 g3 g4 g5 g6 => exact .capped ((he _ rfl).trans g1) g2 (Yai g3 hn) g4 g5 g6
theorem Zyc {S S' : HS} {z : Nat} {s : Sl} {rows : List (List HV)} (h : S.rows s z = some rows) (hk : ∀ q,s.a = some q → S'.heap q.1 = S.heap q.1) : S'.rows s z = some rows := by
 unfold HS.rows at h ⊢
 cases ha : s.a with
 | none => rw [ha] at h; exact h
 | some q =>
  obtain ⟨id,off⟩ := q
  rw [ha] at h
  simp only at h ⊢
  rw [hk _ ha]
  exact h
def OV (S : HS) (z : Nat) (s : Sl) (rows : List (List HV)) : Prop := (s.a = none ∧ s.len = 0 ∧ rows = []) ∨ ∃ id,s = ⟨some (id,0),rows.length,none⟩ ∧ S.heap id = .cells z rows true ∧ id < S.next
theorem OV.keep {S S' : HS} {z : Nat} {s : Sl} {rows : List (List HV)} (h : OV S z s rows) (he : ∀ q,s.a = some q → S'.heap q.1 = S.heap q.1) (hn : S.next ≤ S'.next) : OV S' z s rows := by
 rcases h with h | ⟨id,rfl,h2,h3⟩
 ·exact .inl h
 ·exact .inr ⟨id,rfl,(he _ rfl).trans h2,Yai h3 hn⟩
theorem OV.rows {S : HS} {z : Nat} {s : Sl} {rows : List (List HV)} (h : OV S z s rows) : S.rows s z = some rows := by
 rcases h with ⟨h1,h2,rfl⟩ | ⟨id,rfl,h2,h3⟩
 ·unfold HS.rows; rw [h1]; simp [h2]
 ·simp [HS.rows,h2]
theorem OV.len {S : HS} {z : Nat} {s : Sl} {rows : List (List HV)} (h : OV S z s rows) : s.len = rows.length := (Zx7 h.rows).symm
theorem OV.lt {S : HS} {z : Nat} {s : Sl} {rows : List (List HV)} (h : OV S z s rows) {q : Nat × Nat} (hq : s.a = some q) : q.1 < S.next := by
 rcases h with ⟨h1,_,_⟩ | ⟨id,rfl,h2,h3⟩
 ·rw [h1] at hq; cases hq
 ·cases hq; exact h3
theorem Zag1 {S : HS} {z : Nat} {s : Sl} {rows : List (List HV)} {row : List HV} (h : OV S z s rows) {i : Nat} (hi : i ≤ rows.length) (hb : rows.length + 1 ≤ 2147483648) :
  ∃ s' S',(S.lit [row] z).2.ins s (i : Int) (S.lit [row] z).1 z = some (s',S') ∧ OV S' z s' (rows.take i ++ [row] ++ rows.drop i) ∧ S.next ≤ S'.next ∧ (∀ id,id < S.next → (∀ q,s.a = some q → q.1 ≠ id) → S'.heap id = S.heap id) ∧ ∀ q,s'.a = some q → S.next ≤ q.1 := by
 have hr : (S.lit [row] z).2.rows (S.lit [row] z).1 z = some [row] := by simp [HS.lit,HS.rows,Zxx]
 unfold HS.ins
 rw [hr,obs]
 rcases h with ⟨h1,h2,rfl⟩ | ⟨id,rfl,h2,h3⟩
 ·obtain rfl : i = 0 := by simpa using hi
  rw [if_neg (by rw [h2]; simp),h1]
  simp only
  rw [if_pos ⟨h2,rfl⟩]
  refine ⟨_,_,rfl,.inr ⟨_,rfl,Zxx _ _,Yaw _⟩,?_,fun id hid _ => ?_,fun q hq => ?_⟩
  ·simp only [HS.lit,Zx2]; omega
  ·rw [Zyy _ (by simp only [HS.lit,Zx2]; omega)]; exact Zyy _ hid
  ·cases hq; simp only [HS.lit,Zx2]; omega
 ·rw [if_neg (by simp; omega)]
  have hid : (S.lit [row] z).2.heap id = .cells z rows true := (Zyy _ h3).trans h2
  simp only [hid,show (S.lit [row] z).1.a = some (S.next,0) from rfl]
  have hc : z = z ∧ (0 : Nat) = 0 ∧ (none : Option Nat) = none ∧ rows.length = rows.length ∧ (0 : Int) ≤ (i : Int) ∧ (i : Int) ≤ (rows.length : Int) ∧ S.next ≠ id ∧ S.next < (S.lit [row] z).2.next ∧ (S.lit [row] z).2.mrk S.next ≠ 1 ∧ ((S.lit [row] z).2.heap S.next).own = true := by
   refine ⟨rfl,rfl,rfl,rfl,by omega,by omega,by omega,Yaw _,?_,?_⟩
   ·simp [HS.lit,HS.new,HS.newM]
   ·show ((S.new _).heap S.next).own = true
    rw [Zxx]; rfl
  rw [if_pos (by simpa using hc)]
  have hn : (S.lit [row] z).2.next = S.next + 1 := rfl
  refine ⟨_,_,rfl,.inr ⟨S.next + 2,?_,?_,?_⟩,?_,fun x hx hq => ?_,fun q hq => ?_⟩
  ·simp only [hn]; simp; omega
  ·simp [HS.swap,hn]
  ·show S.next + 2 < (S.lit [row] z).2.next + 2; rw [hn]; omega
  ·show S.next ≤ (S.lit [row] z).2.next + 2; rw [hn]; omega
  ·have hxi : x ≠ id := fun e => hq _ rfl e.symm
   show (if x = (S.lit [row] z).2.next + 1 then _ else if x = (S.lit [row] z).2.next ∨ x = id then HObj.dead else (S.lit [row] z).2.heap x) = S.heap x
   rw [if_neg (by omega),if_neg (by omega)]
   exact Zyy _ hx
  ·cases hq; simp only [hn]; omega
theorem Zag2 {S : HS} {z : Nat} {s : Sl} {rows : List (List HV)} (h : OV S z s rows) {i : Nat} (hi : i < rows.length) (hb : rows.length ≤ 2147483648) :
  ∃ s' S',S.del s (i : Int) ((i + 1 : Nat) : Int) z = some (s',S') ∧ OV S' z s' (rows.eraseIdx i) ∧ S.next ≤ S'.next ∧ (∀ id,id < S.next → (∀ q,s.a = some q → q.1 ≠ id) → S'.heap id = S.heap id) ∧ ∀ q,s'.a = some q → S.next ≤ q.1 := by
 rcases h with ⟨h1,h2,rfl⟩ | ⟨id,rfl,h2,h3⟩
 ·simp at hi
 ·unfold HS.del
  simp only [h2]
  rw [if_pos (by refine ⟨trivial,trivial,trivial,trivial,?_,?_,?_,?_⟩ <;> omega)]
  refine ⟨_,_,rfl,.inr ⟨S.next,?_,?_,Yaw _⟩,Nat.le_succ _,fun x hx hq => ?_,fun q hq => by cases hq; exact Yaa _⟩
  ·simp only [Int.toNat_natCast,List.length_eraseIdx,if_pos hi]
   congr 1; omega
  ·show (if S.next = S.next then HObj.cells z (rows.take (i : Int).toNat ++ rows.drop ((i + 1 : Nat) : Int).toNat) true else _) = _
   rw [if_pos rfl,Int.toNat_natCast,Int.toNat_natCast,List.eraseIdx_eq_take_drop_succ]
  ·show (if x = S.next then _ else if x = id then HObj.dead else S.heap x) = S.heap x
   rw [if_neg (by omega),if_neg (fun e => hq _ rfl e.symm)]
theorem Zag3 {S : HS} {s : Sl} {z : Nat} {rows : List (List HV)} (h : S.rows s z = some rows) {m : Nat} (hm : m ≤ rows.length) : ∃ sc,S.cut s (m : Int) (rows.length : Int) z = some sc ∧ S.rows sc z = some (rows.drop m) := by
 have hl := Zx7 h
 obtain ⟨sa,sl,sc⟩ := s
 have hl2 : rows.length = sl := hl
 subst hl2
 cases sa with
 | none =>
  simp only [HS.rows] at h
  split at h
  ·rename_i e
   cases h
   obtain rfl : m = 0 := by simpa using hm
   exact ⟨⟨none,0,sc⟩,by simp [HS.cut],by simp [HS.rows]⟩
  ·cases h
 | some p =>
  obtain ⟨id,off⟩ := p
  simp only [HS.rows] at h
  split at h
  ·rename_i z' rws own hh
   split at h
   ·rename_i hc
    obtain ⟨rfl,hc⟩ := hc
    simp only [Option.some.injEq] at h
    refine ⟨_,Zzt hh hm (Yaa _),?_⟩
    rw [Zacm hh (by omega)]
    congr 1
    rw [← List.drop_drop,← List.drop_take,h]
   ·cases h
  ·cases h
theorem Zad9 {S S' : HS} {s : Sl} (l h : Int) (z : Nat) (hk : ∀ q,s.a = some q → S'.heap q.1 = S.heap q.1) : S'.cut s l h z = S.cut s l h z := by
 unfold HS.cut
 cases ha : s.a with
 | none => rfl
 | some q => obtain ⟨id,off⟩ := q; simp only [hk _ ha]
theorem Zae6 {S : HS} {s : Sl} {z : Nat} {rows : List (List HV)} (h : S.rows s z = some rows) {m : Nat} (hm : m ≤ rows.length) : ∃ sc,S.cut s 0 (m : Int) z = some sc ∧ S.rows sc z = some (rows.take m) := by
 have hl := Zx7 h
 obtain ⟨sa,sl,sc⟩ := s
 have hl2 : rows.length = sl := hl
 subst hl2
 cases sa with
 | none =>
  simp only [HS.rows] at h
  split at h
  ·rename_i e
   cases h
   obtain rfl : m = 0 := by simpa using hm
   exact ⟨⟨none,0,sc⟩,by simp [HS.cut],by simp [HS.rows]⟩
  ·cases h
 | some p =>
  obtain ⟨id,off⟩ := p
  simp only [HS.rows] at h
  split at h
  ·rename_i z' rws own hh
   split at h
   ·rename_i hc
    obtain ⟨rfl,hc⟩ := hc
    simp only [Option.some.injEq] at h
    have e := Zzt (S := S) (id := id) (off := off) (len := rows.length) (c := sc) (l := 0) (q := m) hh (Yak _) hm
    rw [show ((0 : Nat) : Int) = 0 from rfl] at e
    refine ⟨_,e,?_⟩
    rw [Zacm hh (by omega)]
    congr 1
    rw [Nat.sub_zero,Nat.add_zero,← h,List.take_take,Nat.min_eq_left (by omega)]
   ·cases h
  ·cases h
theorem Zag4 {i j : Nat} (h : i + j ≤ 1000000) : w64 (Int.fdiv (IntKind.wrap .u64 (w64 ((i : Int) + (j : Int)))) (2 ^ (min (Int.toNat 1) (IntKind.bits .u64)))) = (((i + j) / 2 : Nat) : Int) := by
 have e1 : w64 ((i : Int) + (j : Int)) = ((i + j : Nat) : Int) := by rw [Zx6 (by omega) (by omega)]; omega
 have e2 : IntKind.wrap .u64 ((i + j : Nat) : Int) = ((i + j : Nat) : Int) := by
  simp only [IntKind.wrap,IntKind.signed,IntKind.bits]
  simp
  omega
 have e3 : (2 : Int) ^ (min (Int.toNat 1) (IntKind.bits .u64)) = 2 := by decide
 rw [e1,e2,e3]
 have e4 : Int.fdiv ((i + j : Nat) : Int) 2 = (((i + j) / 2 : Nat) : Int) := by
  rw [Int.fdiv_eq_ediv_of_nonneg _ (by omega)]; omega
 rw [e4,Zx6 (by omega) (by omega)]
theorem OV.none {S : HS} {z : Nat} {s : Sl} {rows : List (List HV)} (h : OV S z s rows) (ha : s.a = none) : rows = [] := by
 rcases h with ⟨_,_,h⟩ | ⟨id,rfl,_,_⟩
 ·exact h
 ·cases ha
theorem OV.rd {S : HS} {z : Nat} {s : Sl} {rows : List (List HV)} (h : OV S z s rows) : Rd S.next S z s rows := ⟨h.rows,fun q hq => h.lt hq⟩
theorem Zajc {S : HS} {s : Sl} {rows : List (List HV)} (h : S.rows s 1 = some rows) {i : Nat} (hi : i < rows.length) {v : HV} (hv : rows[i] = [v]) : ∃ ad,S.idx s (i : Int) 1 = some ad ∧ S.get ad = some v := by
 obtain ⟨ad,h1,h2,h3⟩ := Zab7 h (i := i) hi
 refine ⟨ad,h1,?_⟩
 have := Zaa9 (j := 0) (v := v) h3 h2 (by simp [hv])
 obtain ⟨a1,a2,a3⟩ := ad
 simp only at h2
 subst h2
 exact this
theorem Zaf6 {S : HS} {ad : HA} {r : List HV} {m : Option Nat} {j : Nat} (h : S.row ad.id ad.i = some r) (hj : ad.j = 0) (hv : r[j]? = some (.map m)) : S.ldM (HA.fld ad j) = some m := by
 rw [HS.ldM,Zaa9 h hj hv]; rfl
def Own (p : Nat) (s : Sl) (id : Nat) : Prop := id = p ∨ ∃ q,s.a = some q ∧ q.1 = id
structure Only (q : Nat) (s s' : Sl) (S S' : HS) : Prop where
 le : S.next ≤ S'.next
 eq : ∀ id,id < S.next → ¬ Own q s id → S'.heap id = S.heap id
 own : ∀ id,Own q s' id → Own q s id ∨ S.next ≤ id
theorem Only.refl (q : Nat) (s : Sl) (S : HS) : Only q s s S S := ⟨Yaa _,fun _ _ _ => rfl,fun _ h => .inl h⟩
theorem Only.trans {q : Nat} {s s' s'' : Sl} {S S' S'' : HS} (h : Only q s s' S S') (k : Only q s' s'' S' S'') : Only q s s'' S S'' :=
 ⟨Ya2 h.le k.le,fun id h1 h2 => (k.eq id (Yai h1 h.le) (fun ho => (h.own id ho).elim h2 (fun h3 => by omega))).trans (h.eq id h1 h2),fun id ho => by
  rcases k.own id ho with h1 | h1
  ·exact h.own id h1
  ·have := h.le; exact .inr (by omega)⟩
theorem Only.of_fr {q : Nat} {s : Sl} {S S' : HS} (h : Fr S.next S S') : Only q s s S S' := ⟨h.le,fun id h1 _ => h.eq id h1,fun _ ho => .inl ho⟩
structure Tld (H : Hd) (l : Nat) (vs : List (List HV)) (I : Nat → (Nat → Prop) → HS → Prop) (Stop : (Nat → Prop) → HS → Prop) : Prop where
 keep : ∀ i O S S',I i O S → (∀ id,O id → S'.heap id = S.heap id) → S.next ≤ S'.next → I i O S'
 keepS : ∀ O S S',Stop O S → (∀ id,O id → S'.heap id = S.heap id) → S.next ≤ S'.next → Stop O S'
 lt : ∀ i O S,I i O S → ∀ id,O id → id < S.next
 ltS : ∀ O S,Stop O S → ∀ id,O id → id < S.next
 step : ∀ i (hi : i < vs.length) O S,I i O S → ∃ b S' O',Option.bind (H l) (fun r => r vs[i] S) = some (.bool b,S') ∧ S.next ≤ S'.next ∧ (∀ id,id < S.next → ¬ O id → S'.heap id = S.heap id) ∧ (∀ id,O' id → O id ∨ S.next ≤ id) ∧ (b = true → I (i + 1) O' S') ∧ (b = false → Stop O' S')
def Tells (D : Dp) (fv : HV) (vs : List (List HV)) (K : Nat → Prop) (B : HS) : Prop :=
 ∀ (H : Hd) (l : Nat) (I : Nat → (Nat → Prop) → HS → Prop) (Stop : (Nat → Prop) → HS → Prop),Tld H l vs I Stop → ∀ (O : Nat → Prop) (S : HS),I 0 O S → (∀ id,K id → S.heap id = B.heap id ∧ ¬ O id ∧ id < S.next) →
  ∃ S' O',D H fv [.fn (.yield l) [] []] S = some (.tup [],S') ∧ S.next ≤ S'.next ∧ (∀ id,id < S.next → ¬ O id → S'.heap id = S.heap id) ∧ (∀ id,O' id → O id ∨ S.next ≤ id) ∧ (I vs.length O' S' ∨ Stop O' S')
structure Chg (O O' : Nat → Prop) (S S' : HS) : Prop where
 le : S.next ≤ S'.next
 eq : ∀ id,id < S.next → ¬ O id → S'.heap id = S.heap id
 own : ∀ id,O' id → O id ∨ S.next ≤ id
theorem Chg.refl (O : Nat → Prop) (S : HS) : Chg O O S S := ⟨Yaa _,fun _ _ _ => rfl,fun _ h => .inl h⟩
theorem Chg.trans {O O' O'' : Nat → Prop} {S S' S'' : HS} (h : Chg O O' S S') (k : Chg O' O'' S' S'') : Chg O O'' S S'' :=
 ⟨Ya2 h.le k.le,fun id h1 h2 => (k.eq id (Yai h1 h.le) (fun ho => (h.own id ho).elim h2 (fun h3 => by omega))).trans (h.eq id h1 h2),fun id ho => by
  rcases k.own id ho with h1 | h1
  ·exact h.own id h1
  ·have := h.le; exact .inr (by omega)⟩
theorem Chg.of_fr {O : Nat → Prop} {S S' : HS} (h : Fr S.next S S') : Chg O O S S' := ⟨h.le,fun id h1 _ => h.eq id h1,fun _ ho => .inl ho⟩
theorem Zaag {D : Dp} {H : Hd} {fv : HV} {vs : List (List HV)} {K : Nat → Prop} {S : HS} {hd : List HV → HS → Option (HV × HS)} {bd : Nat → HS → Option (HV × HS)}
  (hT : Tells D fv vs K S) (hK : ∀ id,K id → id < S.next) (I : Nat → (Nat → Prop) → HS → Prop) (Q : Code → (Nat → Prop) → HS → Prop)
  (keepI : ∀ i O T T',I i O T → (∀ id,O id → T'.heap id = T.heap id) → T.next ≤ T'.next → I i O T')
  (keepQ : ∀ c O T T',Q c O T → (∀ id,O id → T'.heap id = T.heap id) → T.next ≤ T'.next → Q c O T')
  (O : Nat → Prop) (hO : ∀ id,O id → id < S.next) (hI : I 0 O S) (hOK : ∀ id,O id → ¬ K id)
  (hdef : ∀ i (hi : i < vs.length) T,T.heap (S.next + 1) = .loop .ready none → hd vs[i] T = bd i (T.put (S.next + 1) (.loop .busy none)))
  (step : ∀ i (hi : i < vs.length) O1 U,I i O1 U → S.next + 2 ≤ U.next → U.heap (S.next + 1) = .loop .busy none → ¬ O1 (S.next + 1) → (∀ id,O1 id → id < U.next) →
   ∃ U' O2 j,bd i U = U'.endr (S.next + 1) j ∧ Chg O1 O2 U U' ∧ (∀ id,O2 id → id < U'.next) ∧ (j = none → I (i + 1) O2 U') ∧ ∀ c,j = some c → Q c O2 U') :
  ∃ T st S' O',D (Hd.set H (S.next + 1) hd) fv [.fn (.yield (S.next + 1)) [] []] ((S.new .defer).new (.loop .ready none)) = some (.tup [],T) ∧ T.finish (S.next + 1) = some (st,S') ∧ S'.heap S.next = .defer ∧ S.next + 2 ≤ S'.next ∧
   Chg O O' S S' ∧ (∀ id,O' id → id ≠ S.next ∧ id ≠ S.next + 1 ∧ id < S'.next) ∧ (st = none → I vs.length O' S') ∧ (∀ c,st = some c → Q c O' S') := by
 have f2 : Fr S.next S ((S.new .defer).new (.loop .ready none)) := (Fr.new (Yaa _) _).trans (Fr.new (by rw [Zx2]; omega) _)
 have n2 : ((S.new .defer).new (.loop .ready none)).next = S.next + 2 := rfl
 have d2 : ((S.new .defer).new (.loop .ready none)).heap S.next = .defer := by rw [Zyy _ (by rw [Zx2]; omega)]; exact Zxx _ _
 have l2 : ((S.new .defer).new (.loop .ready none)).heap (S.next + 1) = .loop .ready none := Zxx (S.new .defer) _
 generalize (S.new .defer).new (.loop .ready none) = S0 at f2 n2 d2 l2 ⊢
 let J : Nat → (Nat → Prop) → HS → Prop := fun i OO T => ∃ O1,(∀ id,OO id ↔ (O1 id ∨ id = S.next ∨ id = S.next + 1)) ∧ (∀ id,O1 id → id ≠ S.next ∧ id ≠ S.next + 1 ∧ id < T.next ∧ (O id ∨ S.next + 2 ≤ id)) ∧ I i O1 T ∧ T.heap S.next = .defer ∧ T.heap (S.next + 1) = .loop .ready none ∧ S.next + 2 ≤ T.next
 let St : (Nat → Prop) → HS → Prop := fun OO T => ∃ O1 c,(∀ id,OO id ↔ (O1 id ∨ id = S.next ∨ id = S.next + 1)) ∧ (∀ id,O1 id → id ≠ S.next ∧ id ≠ S.next + 1 ∧ id < T.next ∧ (O id ∨ S.next + 2 ≤ id)) ∧ Q c O1 T ∧ T.heap S.next = .defer ∧ T.heap (S.next + 1) = .loop .done (some c) ∧ S.next + 2 ≤ T.next
 have hO' : ∀ id,O id → id ≠ S.next ∧ id ≠ S.next + 1 ∧ id < S0.next := fun id h => by have := hO id h; omega
 obtain ⟨T,O',e,t1,t2,t3,t4⟩ := hT (Hd.set H (S.next + 1) hd) (S.next + 1) J St (by
   refine ⟨fun i OO T T' h hk hn => ?_,fun OO T T' h hk hn => ?_,fun i OO T h id ho => ?_,fun OO T h id ho => ?_,fun i hi OO T h => ?_⟩
   ·obtain ⟨O1,a1,a2,a3,a4,a5,a6⟩ := h
    exact ⟨O1,a1,fun id ho => ⟨(a2 id ho).1,(a2 id ho).2.1,by have := (a2 id ho).2.2.1; omega,(a2 id ho).2.2.2⟩,keepI _ _ _ _ a3 (fun id ho => hk id ((a1 id).2 (.inl ho))) hn,(hk _ ((a1 _).2 (.inr (.inl rfl)))).trans a4,(hk _ ((a1 _).2 (.inr (.inr rfl)))).trans a5,by omega⟩
   ·obtain ⟨O1,c,a1,a2,a3,a4,a5,a6⟩ := h
    exact ⟨O1,c,a1,fun id ho => ⟨(a2 id ho).1,(a2 id ho).2.1,by have := (a2 id ho).2.2.1; omega,(a2 id ho).2.2.2⟩,keepQ _ _ _ _ a3 (fun id ho => hk id ((a1 id).2 (.inl ho))) hn,(hk _ ((a1 _).2 (.inr (.inl rfl)))).trans a4,(hk _ ((a1 _).2 (.inr (.inr rfl)))).trans a5,by omega⟩
   ·obtain ⟨O1,a1,a2,a3,a4,a5,a6⟩ := h
    rcases (a1 id).1 ho with g | g | g
    ·exact (a2 id g).2.2.1
    ·omega
    ·omega
   ·obtain ⟨O1,c,a1,a2,a3,a4,a5,a6⟩ := h
    rcases (a1 id).1 ho with g | g | g
    ·exact (a2 id g).2.2.1
    ·omega
    ·omega
   ·obtain ⟨O1,a1,a2,a3,a4,a5,a6⟩ := h
    simp only [Hd.set,if_true,obs]
    rw [hdef i hi T a5]
    have bk : ∀ id,id ≠ S.next + 1 → (T.put (S.next + 1) (.loop .busy none)).heap id = T.heap id := fun id h => Zxe _ h
    have bn : (T.put (S.next + 1) (.loop .busy none)).next = T.next := rfl
    have bl : (T.put (S.next + 1) (.loop .busy none)).heap (S.next + 1) = .loop .busy none := Zxv _ _ _
    generalize T.put (S.next + 1) (.loop .busy none) = U at bk bn bl ⊢
    obtain ⟨U',O2,j,e1,c1,l1,p1,p2⟩ := step i hi O1 U (keepI _ _ _ _ a3 (fun id ho => bk id (a2 id ho).2.1) (by omega)) (by omega) bl (fun h => (a2 _ h).2.1 rfl) (fun id h => by have := (a2 id h).2.2.1; omega)
    have ul : U'.heap (S.next + 1) = .loop .busy none := (c1.eq _ (by omega) (fun h => (a2 _ h).2.1 rfl)).trans bl
    have ud : U'.heap S.next = .defer := (c1.eq _ (by omega) (fun h => (a2 _ h).1 rfl)).trans ((bk _ (by omega)).trans a4)
    have hle := c1.le
    have h2 : ∀ id,O2 id → id ≠ S.next ∧ id ≠ S.next + 1 ∧ id < U'.next ∧ (O id ∨ S.next + 2 ≤ id) := fun id h => by
     rcases c1.own id h with g | g
     ·exact ⟨(a2 id g).1,(a2 id g).2.1,l1 id h,(a2 id g).2.2.2⟩
     ·exact ⟨by omega,by omega,l1 id h,.inr (by omega)⟩
    rw [e1,endr_at j ul]
    refine ⟨j.isNone,_,fun id => O2 id ∨ id = S.next ∨ id = S.next + 1,rfl,by rw [Zxw]; omega,fun id g1 g2 => ?_,fun id h => ?_,fun hj => ?_,fun hj => ?_⟩
    ·have g3 : ¬ O1 id := fun h => g2 ((a1 id).2 (.inl h))
     have g4 : id ≠ S.next + 1 := fun h => g2 ((a1 id).2 (.inr (.inr h)))
     rw [Zxe _ g4,c1.eq id (by omega) g3,bk id g4]
    ·rcases h with h | h
     ·rcases c1.own id h with g | g
      ·exact .inl ((a1 id).2 (.inl g))
      ·exact .inr (by omega)
     ·exact .inl ((a1 id).2 (.inr h))
    ·have hj' : j = none := by simpa using hj
     subst hj'
     exact ⟨O2,fun _ => Iff.rfl,h2,keepI _ _ _ _ (p1 rfl) (fun id h => Zxe _ (h2 id h).2.1) (Yaa _),by rw [Zxe _ (by omega)]; exact ud,Zxv _ _ _,by rw [Zxw]; omega⟩
    ·cases j with
     | none => cases hj
     | some c => exact ⟨O2,c,fun _ => Iff.rfl,h2,keepQ _ _ _ _ (p2 c rfl) (fun id h => Zxe _ (h2 id h).2.1) (Yaa _),by rw [Zxe _ (by omega)]; exact ud,Zxv _ _ _,by rw [Zxw]; omega⟩)
  (fun id => O id ∨ id = S.next ∨ id = S.next + 1) S0 ⟨O,fun _ => Iff.rfl,fun id h => ⟨(hO' id h).1,(hO' id h).2.1,(hO' id h).2.2,.inl h⟩,keepI _ _ _ _ hI (fun id h => f2.eq id (hO id h)) f2.le,d2,l2,by omega⟩ (fun id hid => ⟨f2.eq id (hK id hid),fun ho => by
   have := hK id hid
   rcases ho with g | g | g
   ·exact hOK id g hid
   ·omega
   ·omega,by have := hK id hid; omega⟩)
 have hfr : ∀ id,id < S.next → ¬ O id → T.heap id = S.heap id := fun id h1 h2 => (t2 id (by omega) (fun ho => by
  rcases ho with g | g | g
  ·exact h2 g
  ·omega
  ·omega)).trans (f2.eq id h1)
 rcases t4 with h | h
 ·obtain ⟨O1,a1,a2,a3,a4,a5,a6⟩ := h
  refine ⟨T,none,T.put (S.next + 1) (.loop .exhausted none),O1,e,by simp [HS.finish,a5],by rw [Zxe _ (by omega)]; exact a4,a6,⟨by rw [Zxw]; omega,fun id h1 h2 => by rw [Zxe _ (by omega)]; exact hfr id h1 h2,fun id h => (a2 id h).2.2.2.elim .inl (fun g => .inr (by omega))⟩,fun id h => ⟨(a2 id h).1,(a2 id h).2.1,(a2 id h).2.2.1⟩,fun _ => keepI _ _ _ _ a3 (fun id h => Zxe _ (a2 id h).2.1) (Yaa _),fun c hc => by cases hc⟩
 ·obtain ⟨O1,c,a1,a2,a3,a4,a5,a6⟩ := h
  refine ⟨T,some c,T.put (S.next + 1) (.loop .exhausted (some c)),O1,e,by simp [HS.finish,a5],by rw [Zxe _ (by omega)]; exact a4,a6,⟨by rw [Zxw]; omega,fun id h1 h2 => by rw [Zxe _ (by omega)]; exact hfr id h1 h2,fun id h => (a2 id h).2.2.2.elim .inl (fun g => .inr (by omega))⟩,fun id h => ⟨(a2 id h).1,(a2 id h).2.1,(a2 id h).2.2.1⟩,fun hc => (by cases hc),fun c' hc => ?_⟩
  cases hc
  exact keepQ _ _ _ _ a3 (fun id h => Zxe _ (a2 id h).2.1) (Yaa _)
namespace KI
abbrev Ky := Int
def kv (k : Ky) : HV := .int .i64 k
def klt (a b : Ky) : Bool := decide (a < b)
theorem klt_irrefl (a : Ky) : klt a a = false := by simp [klt]
theorem klt_trans {a b c : Ky} (h1 : klt a b = true) (h2 : klt b c = true) : klt a c = true := by simp only [klt,decide_eq_true_eq] at *; exact Int.lt_trans h1 h2
theorem klt_tri (a b : Ky) : klt a b = true ∨ a = b ∨ klt b a = true := by simp only [klt,decide_eq_true_eq]; exact Int.lt_trichotomy a b
def row1 (k : Ky) : List HV := [kv k]
theorem ldK_at {S : HS} {s : Sl} {xs : List Ky} (h : S.rows s 1 = some (xs.map row1)) {i : Nat} (hi : i < xs.length) : ∃ ad,S.idx s (i : Int) 1 = some ad ∧ S.ldI .i64 ad = some xs[i] := by
 obtain ⟨ad,h1,h2⟩ := Zajc h (i := i) (v := kv xs[i]) (by simpa using hi) (by rw [Yaj]; rfl)
 exact ⟨ad,h1,by rw [HS.ldI,h2]; simp [dI,kv]⟩
theorem less_spec (a b : Ky) : Y47.f a b = some (klt a b) := by
 have h : ∀ x,Y8.f x = some false := fun x => by simp [Y8.f]
 rw [Y47.f,h,obs,if_neg (by simp),Y47.J0,if_neg (by simp),Y47.J1]
 rfl
def Srt (es : List Ky) : Prop := es.Pairwise fun a b => klt a b = true
theorem Srt.lt {es : List Ky} (h : Srt es) {i j : Nat} (hi : i < es.length) (hj : j < es.length) (hij : i < j) : klt es[i] es[j] = true := Yap.1 h i j hi hj hij
structure PosOf (es : List Ky) (t : Ky) (p : Nat) : Prop where
 le : p ≤ es.length
 lo : ∀ q (hq : q < es.length),q < p → klt es[q] t = true
 hi : ∀ q (hq : q < es.length),p ≤ q → klt es[q] t = false
theorem PosOf.gt {es : List Ky} {t : Ky} {p : Nat} (h : PosOf es t p) (hs : Srt es) (hf : t ∉ es) {q : Nat} (hq : q < es.length) (hpq : p ≤ q) : klt t es[q] = true := by
 have h1 := h.hi q hq hpq
 rcases klt_tri es[q] t with g | g | g
 ·rw [h1] at g; cases g
 ·exact absurd (g ▸ Yae hq) hf
 ·exact g
theorem PosOf.here {es : List Ky} {t : Ky} {p : Nat} (h : PosOf es t p) (hs : Srt es) (hm : t ∈ es) : ∃ hp : p < es.length,es[p] = t := by
 obtain ⟨q,hq,he⟩ := Yag hm
 have hqp : p ≤ q := by
  rcases Yan q p with g | g
  ·have := h.lo q hq g; rw [he,klt_irrefl] at this; cases this
  ·exact g
 have hp : p < es.length := by omega
 refine ⟨hp,?_⟩
 rcases Nat.eq_or_lt_of_le hqp with g | g
 ·subst g; exact he
 ·have h1 := hs.lt hp hq g
  rw [he] at h1
  rw [h.hi p hp (Yaa _)] at h1; cases h1
theorem ins_srt {es : List Ky} {t : Ky} {p : Nat} (h : PosOf es t p) (hs : Srt es) (hf : t ∉ es) : Srt (es.take p ++ [t] ++ es.drop p) := by
 unfold Srt
 rw [Ya6,Yad]
 refine ⟨List.Pairwise.sublist (List.take_sublist _ _) hs,?_,fun a ha b hb => ?_⟩
 ·rw [List.singleton_append,Yah]
  refine ⟨fun b hb => ?_,List.Pairwise.sublist (List.drop_sublist _ _) hs⟩
  obtain ⟨q,hq,rfl⟩ := Yag hb
  rw [Yat]
  exact h.gt hs hf _ (by omega)
 ·obtain ⟨q,hq,rfl⟩ := Yag ha
  rw [Yar] at hq
  rw [Ybj]
  have h1 := h.lo q (by omega) (by omega)
  rcases Yab.1 hb with hb | hb
  ·simp only [Yaq] at hb
   subst hb; exact h1
  ·obtain ⟨q2,hq2,rfl⟩ := Yag hb
   rw [Yat]
   rw [Ya1] at hq2
   exact hs.lt (by omega) (by omega) (by omega)
theorem ins_mem {es : List Ky} {t : Ky} {p : Nat} (v : Ky) : v ∈ es.take p ++ [t] ++ es.drop p ↔ v ∈ es ∨ v = t := by
 simp only [Yab,Yaq]
 constructor
 ·rintro ((h | h) | h)
  ·exact .inl (Ybh h)
  ·exact .inr h
  ·exact .inl (Ybi h)
 ·rintro (h | h)
  ·rw [← Yas p es,Yab] at h
   rcases h with h | h
   ·exact .inl (.inl h)
   ·exact .inr h
  ·exact .inl (.inr h)
theorem erase_srt {es : List Ky} (hs : Srt es) (p : Nat) : Srt (es.eraseIdx p) := List.Pairwise.sublist (List.eraseIdx_sublist _ _) hs
theorem erase_mem {es : List Ky} (hs : Srt es) {p : Nat} (hp : p < es.length) (v : Ky) : v ∈ es.eraseIdx p ↔ v ∈ es ∧ v ≠ es[p] := by
 rw [List.mem_eraseIdx_iff_getElem]
 constructor
 ·rintro ⟨q,hq,hne,rfl⟩
  refine ⟨Yae hq,fun he => ?_⟩
  rcases Yan q p with g | g
  ·have := hs.lt hq hp g; rw [he,klt_irrefl] at this; cases this
  ·have := hs.lt hp hq (by omega); rw [he,klt_irrefl] at this; cases this
 ·rintro ⟨hm,hne⟩
  obtain ⟨q,hq,rfl⟩ := Yag hm
  exact ⟨q,hq,fun e => hne (by subst e; rfl),rfl⟩
theorem srt_ext : ∀ {a b : List Ky},Srt a → Srt b → (∀ v,v ∈ a ↔ v ∈ b) → a = b := by
 intro a
 induction a with
 | nil =>
  intro b _ _ h
  cases b with
  | nil => rfl
  | cons y b => exact absurd ((h y).2 (by simp)) (by simp)
 | cons x a ih =>
  intro b ha hb h
  cases b with
  | nil => exact absurd ((h x).1 (by simp)) (by simp)
  | cons y b =>
   have ha' := Yah.1 ha
   have hb' := Yah.1 hb
   have hxy : x = y := by
    rcases Yac.1 ((h x).1 (by simp)) with g | g
    ·exact g
    ·rcases Yac.1 ((h y).2 (by simp)) with g2 | g2
     ·exact g2.symm
     ·have h1 := hb'.1 x g
      have h2 := ha'.1 y g2
      have := klt_trans h1 h2
      rw [klt_irrefl] at this; cases this
   subst hxy
   congr 1
   refine ih ha'.2 hb'.2 fun v => ?_
   have h1 := h v
   simp only [Yac] at h1
   constructor
   ·intro hv
    rcases h1.1 (.inr hv) with g | g
    ·subst g; have := ha'.1 v hv; rw [klt_irrefl] at this; cases this
    ·exact g
   ·intro hv
    rcases h1.2 (.inr hv) with g | g
    ·subst g; have := hb'.1 v hv; rw [klt_irrefl] at this; cases this
    ·exact g
theorem bs_spec {k : Nat} {S : HS} {s : Sl} {es : List Ky} {t : Ky} (hk : 2000 ≤ k) (hs : Srt es) (hle : es.length ≤ 1000) (hr : S.rows s 1 = some (es.map row1)) :
  ∃ p : Nat,Y9.f k s t S = some (((p : Int),decide (t ∈ es)),S) ∧ PosOf es t p := by
 have hsl : (s.len : Int) = es.length := by rw [← Zx7 hr]; simp
 have hloop : ∀ (n i j : Nat),j - i < n → i ≤ j → j ≤ es.length → (∀ q (hq : q < es.length),q < i → klt es[q] t = true) → (∀ q (hq : q < es.length),j ≤ q → klt es[q] t = false) →
   ∃ p : Nat,Y9.L0 k n s t (es.length : Int) (i : Int) (j : Int) S = some (((p : Int),decide (t ∈ es)),S) ∧ PosOf es t p := by
  intro n
  induction n with
  | zero => intro i j h; omega
  | succ n ih =>
   intro i j hf hij hj hlo hhi
   rw [Y9.L0]
   by_cases hlt : i < j
   ·rw [if_pos (by omega),Zag4 (by omega)]
    have hm : (i + j) / 2 < es.length := by omega
    obtain ⟨ad,a1,a2⟩ := ldK_at hr hm
    rw [a1,obs,a2,obs,less_spec,obs]
    cases hc : klt es[(i + j) / 2] t with
    | true =>
     rw [if_pos rfl,Zx6 (by omega) (by omega),show ((((i + j) / 2 : Nat) : Int) + 1) = (((i + j) / 2 + 1 : Nat) : Int) by simp]
     exact ih ((i + j) / 2 + 1) j (by omega) (by omega) hj (fun q hq hqi => by
      rcases Yan q ((i + j) / 2) with h | h
      ·exact klt_trans (hs.lt hq hm h) hc
      ·obtain rfl : q = (i + j) / 2 := by omega
       exact hc) hhi
    | false =>
     rw [if_neg (by simp)]
     exact ih i ((i + j) / 2) (by omega) (by omega) (by omega) hlo (fun q hq hqi => by
      rcases Yan ((i + j) / 2) q with h | h
      ·cases h2 : klt es[q] t with
       | false => rfl
       | true => have := klt_trans (hs.lt hm hq h) h2; rw [hc] at this; cases this
      ·obtain rfl : q = (i + j) / 2 := by omega
       exact hc)
   ·obtain rfl : i = j := by omega
    rw [if_neg (by omega)]
    have hp : PosOf es t i := ⟨hj,hlo,hhi⟩
    refine ⟨i,?_,hp⟩
    by_cases hend : i < es.length
    ·obtain ⟨ad,a1,a2⟩ := ldK_at hr hend
     rw [if_pos (by omega),a1,obs,a2,obs]
     by_cases he : es[i] = t
     ·rw [if_pos he,Y9.J1,if_pos (by simpa using hend),Y9.J2,decide_eq_true (he ▸ Yae hend)]
     ·have hno : t ∉ es := fun hm => by
       obtain ⟨_,h2⟩ := hp.here hs hm
       exact he h2
      rw [if_neg he,obs,a2,obs,show Y38.f es[i] = some false by simp [Y38.f],obs,if_neg (by simp),Y9.J3,if_pos (by simpa using hend),if_neg (by simpa using he),Y9.J1,if_pos (by simpa using hend),Y9.J2,decide_eq_false hno]
    ·have hno : t ∉ es := fun hm => by
      obtain ⟨h1,_⟩ := hp.here hs hm
      exact hend h1
     rw [if_neg (by omega),Y9.J2,decide_eq_false hno]
 rw [Y9.f,hsl]
 exact hloop k 0 es.length (by omega) (Yak _) (Yaa _) (fun q hq h => by omega) (fun q hq h => by omega)
structure SI (p : Nat) (s : Sl) (xs : List Ky) (S : HS) : Prop where
 cell : S.heap p = .cells 1 [[s.hv]] true
 ov : OV S 1 s (xs.map row1)
 ne : ∀ q,s.a = some q → q.1 ≠ p
 hi : p < S.next
 srt : Srt xs
 cnt : xs.length ≤ 1000
theorem SI.lt {p : Nat} {s : Sl} {xs : List Ky} {S : HS} (h : SI p s xs S) {id : Nat} (ho : Own p s id) : id < S.next := by
 rcases ho with rfl | ⟨q,h1,rfl⟩
 ·exact h.hi
 ·exact h.ov.lt h1
theorem SI.keep {p : Nat} {s : Sl} {xs : List Ky} {S S' : HS} (h : SI p s xs S) (he : ∀ id,Own p s id → S'.heap id = S.heap id) (hn : S.next ≤ S'.next) : SI p s xs S' :=
 ⟨(he p (.inl rfl)).trans h.cell,h.ov.keep (fun q hq => he q.1 (.inr ⟨q,hq,rfl⟩)) hn,h.ne,Yai h.hi hn,h.srt,h.cnt⟩
theorem SI.fr {p : Nat} {s : Sl} {xs : List Ky} {S S' : HS} (h : SI p s xs S) (hf : Fr S.next S S') : SI p s xs S' := h.keep (fun id ho => hf.eq id (h.lt ho)) hf.le
theorem SI.ld {p : Nat} {s : Sl} {xs : List Ky} {S : HS} (h : SI p s xs S) : S.ldSl (HA.fld (HA.cell0 p) 0) = some s := Zy4 (Zxu h.cell) rfl rfl
theorem SI.slen {p : Nat} {s : Sl} {xs : List Ky} {S : HS} (h : SI p s xs S) : (s.len : Int) = xs.length := by rw [h.ov.len]; simp
theorem set_put {p : Nat} {s s' : Sl} {S : HS} (h : S.heap p = .cells 1 [[s.hv]] true) : S.sets (HA.fld (HA.cell0 p) 0) [s'.hv] = some (S.put p (.cells 1 [[s'.hv]] true)) := (Zyv h rfl (by simp)).trans rfl
theorem ins_spec {p : Nat} {s : Sl} {xs : List Ky} {S : HS} (h : SI p s xs S) {t : Ky} {i : Nat} (hp : PosOf xs t i) (hno : t ∉ xs) (hroom : xs.length < 1000) :
  ∃ s' S' S1,Y97.f s (i : Int) (S.lit [[.int .i64 t]] 1).1 (S.lit [[.int .i64 t]] 1).2 = some (s',S1) ∧ S1.sets (HA.fld (HA.cell0 p) 0) [s'.hv] = some S' ∧ SI p s' (xs.take i ++ [t] ++ xs.drop i) S' ∧ Only p s s' S S' := by
 obtain ⟨s',S1,a1,a2,a3,a4,a5⟩ := Zag1 (row := row1 t) h.ov (i := i) (by simpa using hp.le) (by simp; omega)
 have hcell : S1.heap p = .cells 1 [[s.hv]] true := by rw [a4 p h.hi h.ne]; exact h.cell
 have hne' : ∀ q,s'.a = some q → q.1 ≠ p := fun q hq => by have := a5 q hq; have := h.hi; omega
 refine ⟨s',_,S1,a1,set_put hcell,⟨Zxv _ _ _,?_,hne',Yai h.hi a3,ins_srt hp h.srt hno,by simp; omega⟩,⟨by rw [Zxw]; exact a3,fun id g1 g2 => ?_,fun id ho => ?_⟩⟩
 ·have hm : (xs.take i ++ [t] ++ xs.drop i).map row1 = (xs.map row1).take i ++ [row1 t] ++ (xs.map row1).drop i := by simp only [Yau,List.map_take,List.map_drop,List.map_cons,List.map_nil]
  rw [hm]
  exact a2.keep (fun q hq => Zxe _ (hne' q hq)) (Yaa _)
 ·rw [Zxe _ (fun e => g2 (.inl e))]
  exact a4 id g1 (fun q hq e => g2 (.inr ⟨q,hq,e⟩))
 ·rcases ho with g | ⟨q,g1,g2⟩
  ·exact .inl (.inl g)
  ·right; rw [← g2]; exact a5 q g1
theorem del_spec {p : Nat} {s : Sl} {xs : List Ky} {S : HS} (h : SI p s xs S) {i : Nat} (hi : i < xs.length) :
  ∃ s' S' S1,Y96.f s (i : Int) ((i + 1 : Nat) : Int) S = some (s',S1) ∧ S1.sets (HA.fld (HA.cell0 p) 0) [s'.hv] = some S' ∧ SI p s' (xs.eraseIdx i) S' ∧ Only p s s' S S' := by
 have hcnt := h.cnt
 obtain ⟨s',S1,a1,a2,a3,a4,a5⟩ := Zag2 h.ov (i := i) (by simpa using hi) (by simp; omega)
 have hcell : S1.heap p = .cells 1 [[s.hv]] true := by rw [a4 p h.hi h.ne]; exact h.cell
 have hne' : ∀ q,s'.a = some q → q.1 ≠ p := fun q hq => by have := a5 q hq; have := h.hi; omega
 refine ⟨s',_,S1,a1,set_put hcell,⟨Zxv _ _ _,?_,hne',Yai h.hi a3,erase_srt h.srt i,by rw [List.length_eraseIdx,if_pos hi]; omega⟩,⟨by rw [Zxw]; exact a3,fun id g1 g2 => ?_,fun id ho => ?_⟩⟩
 ·rw [Go.ChangeMaps.map_eraseIdx]
  exact a2.keep (fun q hq => Zxe _ (hne' q hq)) (Yaa _)
 ·rw [Zxe _ (fun e => g2 (.inl e))]
  exact a4 id g1 (fun q hq e => g2 (.inr ⟨q,hq,e⟩))
 ·rcases ho with g | ⟨q,g1,g2⟩
  ·exact .inl (.inl g)
  ·right; rw [← g2]; exact a5 q g1
theorem add_spec {k p : Nat} {s sl : Sl} {xs ls : List Ky} {S : HS} (hk : 2000 ≤ k) (h : SI p s xs S) (hr : S.rows sl 1 = some (ls.map row1)) (hlt : ∀ q,sl.a = some q → q.1 < S.next ∧ ¬ Own p s q.1) (hc : xs.length + ls.length ≤ 1000) :
  ∃ s' xs' S',Y11.f k (some (HA.cell0 p)) sl S = some ((xs'.length : Int) - xs.length,S') ∧ SI p s' xs' S' ∧ Only p s s' S S' ∧ (∀ v,v ∈ xs' ↔ v ∈ xs ∨ v ∈ ls) ∧ xs.length ≤ xs'.length ∧ xs'.length ≤ xs.length + ls.length := by
 have hsl : (sl.len : Int) = ls.length := by rw [← Zx7 hr]; simp
 have hloop : ∀ (f i : Nat) (T : HS) (s1 : Sl) (ys : List Ky),ls.length - i < f → i ≤ ls.length → SI p s1 ys T → Only p s s1 S T → (∀ v,v ∈ ys ↔ v ∈ xs ∨ v ∈ ls.take i) → xs.length ≤ ys.length → ys.length ≤ xs.length + i →
   ∃ s' xs' S',Y11.L0 k f (some (HA.cell0 p)) ((ys.length : Int) - xs.length) sl (ls.length : Int) (i : Int) T = some ((xs'.length : Int) - xs.length,S') ∧ SI p s' xs' S' ∧ Only p s s' S S' ∧ (∀ v,v ∈ xs' ↔ v ∈ xs ∨ v ∈ ls) ∧ xs.length ≤ xs'.length ∧ xs'.length ≤ xs.length + ls.length := by
  intro f
  induction f with
  | zero => intro i T s1 ys h; omega
  | succ f ih =>
   intro i T s1 ys hf hi hT hO hm hge hle
   have hrT : T.rows sl 1 = some (ls.map row1) := Zyc hr fun q hq => hO.eq q.1 (hlt q hq).1 (hlt q hq).2
   rw [Y11.L0]
   by_cases hil : i < ls.length
   ·obtain ⟨ad,a1,a2⟩ := ldK_at hrT hil
    obtain ⟨j,b1,hp⟩ := bs_spec (t := ls[i]) hk hT.srt hT.cnt hT.ov.rows
    have hmem : ∀ v,(v ∈ ls.take (i + 1) ↔ v ∈ ls.take i ∨ v = ls[i]) := fun v => by rw [Yaf hil,Yab,Yaq]
    rw [if_pos (by omega),a1,obs,a2,obs,obs,hT.ld,obs,b1,obs]
    simp only
    by_cases hin : ls[i] ∈ ys
    ·rw [decide_eq_true hin,if_neg (by simp),Y11.J1,Zx6 (by omega) (by omega),show ((i : Int) + 1) = ((i + 1 : Nat) : Int) by simp]
     refine ih (i + 1) T s1 ys (by omega) (by omega) hT hO (fun v => ?_) hge (by omega)
     rw [hmem,← or_assoc,← hm]
     exact ⟨fun h => .inl h,fun h => h.elim id (fun e => e ▸ hin)⟩
    ·obtain ⟨s2,T2,T1,c1,c2,c3,c4⟩ := ins_spec hT hp hin (by omega)
     have hlen : (ys.take j ++ [ls[i]] ++ ys.drop j).length = ys.length + 1 := by
      have := hp.le
      simp only [Ya3,Yar,Ya1,List.length_singleton]; omega
     rw [decide_eq_false hin,if_pos (by simp),obs,hT.ld,obs,letv,c1,obs,obs,c2,obs,Y11.J1,Zx6 (n := (i : Int) + 1) (by omega) (by omega),show ((i : Int) + 1) = ((i + 1 : Nat) : Int) by simp,Zx6 (by omega) (by omega)]
     have e : (ys.length : Int) - xs.length + 1 = ((ys.take j ++ [ls[i]] ++ ys.drop j).length : Int) - xs.length := by rw [hlen]; omega
     rw [e]
     refine ih (i + 1) T2 s2 _ (by omega) (by omega) c3 (hO.trans c4) (fun v => ?_) (by omega) (by omega)
     rw [ins_mem,hmem,← or_assoc,← hm]
   ·obtain rfl : i = ls.length := by omega
    rw [if_neg (by omega)]
    rw [Yao] at hm
    exact ⟨s1,ys,T,rfl,hT,hO,hm,hge,hle⟩
 rw [Y11.f,if_neg (by simp),hsl]
 have := hloop k 0 S s xs (by omega) (Yak _) h (Only.refl _ _ _) (fun v => by simp) (Yaa _) (by omega)
 rw [show ((xs.length : Int) - xs.length) = 0 by omega] at this
 exact this
theorem remove_spec {k p : Nat} {s sl : Sl} {xs ls : List Ky} {S : HS} (hk : 2000 ≤ k) (h : SI p s xs S) (hr : S.rows sl 1 = some (ls.map row1)) (hlt : ∀ q,sl.a = some q → q.1 < S.next ∧ ¬ Own p s q.1) (hc : ls.length ≤ 1000) :
  ∃ s' xs' S',Y20.f k (some (HA.cell0 p)) sl S = some ((xs.length : Int) - xs'.length,S') ∧ SI p s' xs' S' ∧ Only p s s' S S' ∧ (∀ v,v ∈ xs' ↔ v ∈ xs ∧ v ∉ ls) ∧ xs'.length ≤ xs.length := by
 have hsl : (sl.len : Int) = ls.length := by rw [← Zx7 hr]; simp
 have hcnt := h.cnt
 have hloop : ∀ (f i : Nat) (T : HS) (s1 : Sl) (ys : List Ky),ls.length - i < f → i ≤ ls.length → SI p s1 ys T → Only p s s1 S T → (∀ v,v ∈ ys ↔ v ∈ xs ∧ v ∉ ls.take i) → ys.length ≤ xs.length →
   ∃ s' xs' S',Y20.L0 k f (some (HA.cell0 p)) ((xs.length : Int) - ys.length) sl (ls.length : Int) (i : Int) T = some ((xs.length : Int) - xs'.length,S') ∧ SI p s' xs' S' ∧ Only p s s' S S' ∧ (∀ v,v ∈ xs' ↔ v ∈ xs ∧ v ∉ ls) ∧ xs'.length ≤ xs.length := by
  intro f
  induction f with
  | zero => intro i T s1 ys h; omega
  | succ f ih =>
   intro i T s1 ys hf hi hT hO hm hle
   have hrT : T.rows sl 1 = some (ls.map row1) := Zyc hr fun q hq => hO.eq q.1 (hlt q hq).1 (hlt q hq).2
   rw [Y20.L0]
   by_cases hil : i < ls.length
   ·obtain ⟨ad,a1,a2⟩ := ldK_at hrT hil
    obtain ⟨j,b1,hp⟩ := bs_spec (t := ls[i]) hk hT.srt hT.cnt hT.ov.rows
    have hmem : ∀ v,(v ∉ ls.take (i + 1) ↔ v ∉ ls.take i ∧ v ≠ ls[i]) := fun v => by rw [Yaf hil,Yab,Yaq,not_or]
    rw [if_pos (by omega),a1,obs,a2,obs,obs,hT.ld,obs,b1,obs]
    simp only
    by_cases hin : ls[i] ∈ ys
    ·obtain ⟨hj,he⟩ := hp.here hT.srt hin
     obtain ⟨s2,T2,T1,c1,c2,c3,c4⟩ := del_spec hT hj
     have hlen : (ys.eraseIdx j).length = ys.length - 1 := by rw [List.length_eraseIdx,if_pos hj]
     rw [decide_eq_true hin,if_pos rfl,obs,hT.ld,obs,Zx6 (n := (j : Int) + 1) (by omega) (by omega),show ((j : Int) + 1) = ((j + 1 : Nat) : Int) by simp,c1,obs,obs,c2,obs,Y20.J1,Zx6 (n := (i : Int) + 1) (by omega) (by omega),show ((i : Int) + 1) = ((i + 1 : Nat) : Int) by simp,Zx6 (by omega) (by omega)]
     have e : (xs.length : Int) - ys.length + 1 = (xs.length : Int) - ((ys.eraseIdx j).length : Int) := by rw [hlen]; omega
     rw [e]
     refine ih (i + 1) T2 s2 _ (by omega) (by omega) c3 (hO.trans c4) (fun v => ?_) (by omega)
     rw [erase_mem hT.srt hj,hmem,← and_assoc,← hm,he]
    ·rw [decide_eq_false hin,if_neg (by simp),Y20.J1,Zx6 (by omega) (by omega),show ((i : Int) + 1) = ((i + 1 : Nat) : Int) by simp]
     refine ih (i + 1) T s1 ys (by omega) (by omega) hT hO (fun v => ?_) hle
     rw [hmem,← and_assoc,← hm]
     exact ⟨fun h => ⟨h,fun e => hin (e ▸ h)⟩,fun h => h.1⟩
   ·obtain rfl : i = ls.length := by omega
    rw [if_neg (by omega)]
    rw [Yao] at hm
    exact ⟨s1,ys,T,rfl,hT,hO,hm,hle⟩
 rw [Y20.f,if_neg (by simp),hsl]
 have := hloop k 0 S s xs (by omega) (Yak _) h (Only.refl _ _ _) (fun v => by simp) (Yaa _)
 rw [show ((xs.length : Int) - xs.length) = 0 by omega] at this
 exact this
theorem len_spec {p : Nat} {s : Sl} {xs : List Ky} {S : HS} (h : SI p s xs S) : Y76.f (some (HA.cell0 p)) S = some ((xs.length : Int),S) := by
 rw [Y76.f,if_neg (by simp),obs,h.ld,obs,h.slen]
theorem of_spec {k : Nat} {sl : Sl} {ls : List Ky} {S : HS} (hk : 2000 ≤ k) (hr : Rd S.next S 1 sl (ls.map row1)) (hc : ls.length ≤ 1000) :
  ∃ s' xs' S',Y21.f k sl S = some (some (HA.cell0 S.next),S') ∧ SI S.next s' xs' S' ∧ Fr S.next S S' ∧ (∀ id,Own S.next s' id → S.next ≤ id) ∧ (∀ v,v ∈ xs' ↔ v ∈ ls) ∧ xs'.length ≤ ls.length := by
 have fn : Fr S.next S (S.new (.cells 1 [[Sl.nil.hv]] true)) := Fr.new (Yaa _) _
 have h0 : SI S.next Sl.nil [] (S.new (.cells 1 [[Sl.nil.hv]] true)) := ⟨Zxx _ _,.inl ⟨rfl,rfl,rfl⟩,fun q hq => (by cases hq),Yaw _,List.Pairwise.nil,by simp⟩
 have nn : (S.new (.cells 1 [[Sl.nil.hv]] true)).next = S.next + 1 := rfl
 obtain ⟨s',xs',S',e,g1,g2,g3,g4,g5⟩ := add_spec hk h0 (hr.frame fn (Yaa _)).rows (fun q hq => ⟨by have := hr.lt q hq; omega,fun ho => by
  rcases ho with g | ⟨q',g,_⟩
  ·have := hr.lt q hq; omega
  ·cases g⟩) (by simpa using hc)
 rw [Y21.f,letv,e,obs]
 refine ⟨s',xs',S',rfl,g1,⟨by have := g2.le; omega,fun id hid => ?_⟩,fun id ho => ?_,fun v => by rw [g3]; simp,by simpa using g5⟩
 ·rw [g2.eq id (by omega) (fun ho => by
   rcases ho with g | ⟨q',g,_⟩
   ·omega
   ·cases g)]
  exact fn.eq id hid
 ·rcases g2.own id ho with g | g
  ·rcases g with g | ⟨q',g,_⟩
   ·omega
   ·cases g
  ·omega
end KI
namespace KS
abbrev Ky := List UInt8
def kv (k : Ky) : HV := .str k
def klt (a b : Ky) : Bool := slt a b
theorem klt_irrefl : ∀ (x : Ky),klt x x = false := by
 intro x
 unfold klt
 induction x with
 | nil => rfl
 | cons a x ih => simp [slt,ih]
theorem klt_trans : ∀ {a b c : Ky},klt a b = true → klt b c = true → klt a c = true := by
 unfold klt
 intro a
 induction a with
 | nil => intro b c h1 h2; cases c with
  | nil => cases b <;> simp [slt] at h2
  | cons z c => rfl
 | cons x a ih =>
  intro b c h1 h2
  cases b with
  | nil => simp [slt] at h1
  | cons y b =>
   cases c with
   | nil => simp [slt] at h2
   | cons z c =>
    simp only [slt,Bool.or_eq_true,decide_eq_true_eq,Bool.and_eq_true,beq_iff_eq] at *
    rcases h1 with h1 | ⟨h1,h1'⟩
    ·rcases h2 with h2 | ⟨h2,_⟩
     ·exact .inl (UInt8.lt_trans h1 h2)
     ·exact .inl (h2 ▸ h1)
    ·rcases h2 with h2 | ⟨h2,h2'⟩
     ·exact .inl (h1 ▸ h2)
     ·exact .inr ⟨h1.trans h2,ih h1' h2'⟩
theorem klt_tri : ∀ (a b : Ky),klt a b = true ∨ a = b ∨ klt b a = true := by
 unfold klt
 intro a
 induction a with
 | nil => intro b; cases b with
  | nil => exact .inr (.inl rfl)
  | cons y b => exact .inl rfl
 | cons x a ih =>
  intro b
  cases b with
  | nil => exact .inr (.inr rfl)
  | cons y b =>
   simp only [slt,Bool.or_eq_true,decide_eq_true_eq,Bool.and_eq_true,beq_iff_eq,List.cons.injEq]
   rcases Nat.lt_trichotomy x.toNat y.toNat with h | h | h
   ·exact .inl (.inl (UInt8.lt_iff_toNat_lt.2 h))
   ·have hxy := UInt8.toNat_inj.1 h
    rcases ih b with g | g | g
    ·exact .inl (.inr ⟨hxy,g⟩)
    ·exact .inr (.inl ⟨hxy,g⟩)
    ·exact .inr (.inr (.inr ⟨hxy.symm,g⟩))
   ·exact .inr (.inr (.inl (UInt8.lt_iff_toNat_lt.2 h)))
def row1 (k : Ky) : List HV := [kv k]
theorem ldK_at {S : HS} {s : Sl} {xs : List Ky} (h : S.rows s 1 = some (xs.map row1)) {i : Nat} (hi : i < xs.length) : ∃ ad,S.idx s (i : Int) 1 = some ad ∧ S.ldS ad = some xs[i] := by
 obtain ⟨ad,h1,h2⟩ := Zajc h (i := i) (v := kv xs[i]) (by simpa using hi) (by rw [Yaj]; rfl)
 exact ⟨ad,h1,by rw [HS.ldS,h2]; simp [dS,kv]⟩
theorem less_spec (a b : Ky) : Y50.f a b = some (klt a b) := by
 have h : ∀ x,Y40.f x = some false := fun x => by simp [Y40.f]
 rw [Y50.f,h,obs,if_neg (by simp),Y50.J0,if_neg (by simp),Y50.J1]
 rfl
def Srt (es : List Ky) : Prop := es.Pairwise fun a b => klt a b = true
theorem Srt.lt {es : List Ky} (h : Srt es) {i j : Nat} (hi : i < es.length) (hj : j < es.length) (hij : i < j) : klt es[i] es[j] = true := Yap.1 h i j hi hj hij
structure PosOf (es : List Ky) (t : Ky) (p : Nat) : Prop where
 le : p ≤ es.length
 lo : ∀ q (hq : q < es.length),q < p → klt es[q] t = true
 hi : ∀ q (hq : q < es.length),p ≤ q → klt es[q] t = false
theorem PosOf.gt {es : List Ky} {t : Ky} {p : Nat} (h : PosOf es t p) (hs : Srt es) (hf : t ∉ es) {q : Nat} (hq : q < es.length) (hpq : p ≤ q) : klt t es[q] = true := by
 have h1 := h.hi q hq hpq
 rcases klt_tri es[q] t with g | g | g
 ·rw [h1] at g; cases g
 ·exact absurd (g ▸ Yae hq) hf
 ·exact g
theorem PosOf.here {es : List Ky} {t : Ky} {p : Nat} (h : PosOf es t p) (hs : Srt es) (hm : t ∈ es) : ∃ hp : p < es.length,es[p] = t := by
 obtain ⟨q,hq,he⟩ := Yag hm
 have hqp : p ≤ q := by
  rcases Yan q p with g | g
  ·have := h.lo q hq g; rw [he,klt_irrefl] at this; cases this
  ·exact g
 have hp : p < es.length := by omega
 refine ⟨hp,?_⟩
 rcases Nat.eq_or_lt_of_le hqp with g | g
 ·subst g; exact he
 ·have h1 := hs.lt hp hq g
  rw [he] at h1
  rw [h.hi p hp (Yaa _)] at h1; cases h1
theorem ins_srt {es : List Ky} {t : Ky} {p : Nat} (h : PosOf es t p) (hs : Srt es) (hf : t ∉ es) : Srt (es.take p ++ [t] ++ es.drop p) := by
 unfold Srt
 rw [Ya6,Yad]
 refine ⟨List.Pairwise.sublist (List.take_sublist _ _) hs,?_,fun a ha b hb => ?_⟩
 ·rw [List.singleton_append,Yah]
  refine ⟨fun b hb => ?_,List.Pairwise.sublist (List.drop_sublist _ _) hs⟩
  obtain ⟨q,hq,rfl⟩ := Yag hb
  rw [Yat]
  exact h.gt hs hf _ (by omega)
 ·obtain ⟨q,hq,rfl⟩ := Yag ha
  rw [Yar] at hq
  rw [Ybj]
  have h1 := h.lo q (by omega) (by omega)
  rcases Yab.1 hb with hb | hb
  ·simp only [Yaq] at hb
   subst hb; exact h1
  ·obtain ⟨q2,hq2,rfl⟩ := Yag hb
   rw [Yat]
   rw [Ya1] at hq2
   exact hs.lt (by omega) (by omega) (by omega)
theorem ins_mem {es : List Ky} {t : Ky} {p : Nat} (v : Ky) : v ∈ es.take p ++ [t] ++ es.drop p ↔ v ∈ es ∨ v = t := by
 simp only [Yab,Yaq]
 constructor
 ·rintro ((h | h) | h)
  ·exact .inl (Ybh h)
  ·exact .inr h
  ·exact .inl (Ybi h)
 ·rintro (h | h)
  ·rw [← Yas p es,Yab] at h
   rcases h with h | h
   ·exact .inl (.inl h)
   ·exact .inr h
  ·exact .inl (.inr h)
theorem erase_srt {es : List Ky} (hs : Srt es) (p : Nat) : Srt (es.eraseIdx p) := List.Pairwise.sublist (List.eraseIdx_sublist _ _) hs
theorem erase_mem {es : List Ky} (hs : Srt es) {p : Nat} (hp : p < es.length) (v : Ky) : v ∈ es.eraseIdx p ↔ v ∈ es ∧ v ≠ es[p] := by
 rw [List.mem_eraseIdx_iff_getElem]
 constructor
 ·rintro ⟨q,hq,hne,rfl⟩
  refine ⟨Yae hq,fun he => ?_⟩
  rcases Yan q p with g | g
  ·have := hs.lt hq hp g; rw [he,klt_irrefl] at this; cases this
  ·have := hs.lt hp hq (by omega); rw [he,klt_irrefl] at this; cases this
 ·rintro ⟨hm,hne⟩
  obtain ⟨q,hq,rfl⟩ := Yag hm
  exact ⟨q,hq,fun e => hne (by subst e; rfl),rfl⟩
theorem srt_ext : ∀ {a b : List Ky},Srt a → Srt b → (∀ v,v ∈ a ↔ v ∈ b) → a = b := by
 intro a
 induction a with
 | nil =>
  intro b _ _ h
  cases b with
  | nil => rfl
  | cons y b => exact absurd ((h y).2 (by simp)) (by simp)
 | cons x a ih =>
  intro b ha hb h
  cases b with
  | nil => exact absurd ((h x).1 (by simp)) (by simp)
  | cons y b =>
   have ha' := Yah.1 ha
   have hb' := Yah.1 hb
   have hxy : x = y := by
    rcases Yac.1 ((h x).1 (by simp)) with g | g
    ·exact g
    ·rcases Yac.1 ((h y).2 (by simp)) with g2 | g2
     ·exact g2.symm
     ·have h1 := hb'.1 x g
      have h2 := ha'.1 y g2
      have := klt_trans h1 h2
      rw [klt_irrefl] at this; cases this
   subst hxy
   congr 1
   refine ih ha'.2 hb'.2 fun v => ?_
   have h1 := h v
   simp only [Yac] at h1
   constructor
   ·intro hv
    rcases h1.1 (.inr hv) with g | g
    ·subst g; have := ha'.1 v hv; rw [klt_irrefl] at this; cases this
    ·exact g
   ·intro hv
    rcases h1.2 (.inr hv) with g | g
    ·subst g; have := hb'.1 v hv; rw [klt_irrefl] at this; cases this
    ·exact g
theorem bs_spec {k : Nat} {S : HS} {s : Sl} {es : List Ky} {t : Ky} (hk : 2000 ≤ k) (hs : Srt es) (hle : es.length ≤ 1000) (hr : S.rows s 1 = some (es.map row1)) :
  ∃ p : Nat,Y3.f k s t S = some (((p : Int),decide (t ∈ es)),S) ∧ PosOf es t p := by
 have hsl : (s.len : Int) = es.length := by rw [← Zx7 hr]; simp
 have hloop : ∀ (n i j : Nat),j - i < n → i ≤ j → j ≤ es.length → (∀ q (hq : q < es.length),q < i → klt es[q] t = true) → (∀ q (hq : q < es.length),j ≤ q → klt es[q] t = false) →
   ∃ p : Nat,Y3.L0 k n s t (es.length : Int) (i : Int) (j : Int) S = some (((p : Int),decide (t ∈ es)),S) ∧ PosOf es t p := by
  intro n
  induction n with
  | zero => intro i j h; omega
  | succ n ih =>
   intro i j hf hij hj hlo hhi
   rw [Y3.L0]
   by_cases hlt : i < j
   ·rw [if_pos (by omega),Zag4 (by omega)]
    have hm : (i + j) / 2 < es.length := by omega
    obtain ⟨ad,a1,a2⟩ := ldK_at hr hm
    rw [a1,obs,a2,obs,less_spec,obs]
    cases hc : klt es[(i + j) / 2] t with
    | true =>
     rw [if_pos rfl,Zx6 (by omega) (by omega),show ((((i + j) / 2 : Nat) : Int) + 1) = (((i + j) / 2 + 1 : Nat) : Int) by simp]
     exact ih ((i + j) / 2 + 1) j (by omega) (by omega) hj (fun q hq hqi => by
      rcases Yan q ((i + j) / 2) with h | h
      ·exact klt_trans (hs.lt hq hm h) hc
      ·obtain rfl : q = (i + j) / 2 := by omega
       exact hc) hhi
    | false =>
     rw [if_neg (by simp)]
     exact ih i ((i + j) / 2) (by omega) (by omega) (by omega) hlo (fun q hq hqi => by
      rcases Yan ((i + j) / 2) q with h | h
      ·cases h2 : klt es[q] t with
       | false => rfl
       | true => have := klt_trans (hs.lt hm hq h) h2; rw [hc] at this; cases this
      ·obtain rfl : q = (i + j) / 2 := by omega
       exact hc)
   ·obtain rfl : i = j := by omega
    rw [if_neg (by omega)]
    have hp : PosOf es t i := ⟨hj,hlo,hhi⟩
    refine ⟨i,?_,hp⟩
    by_cases hend : i < es.length
    ·obtain ⟨ad,a1,a2⟩ := ldK_at hr hend
     rw [if_pos (by omega),a1,obs,a2,obs]
     by_cases he : es[i] = t
     ·rw [if_pos he,Y3.J1,if_pos (by simpa using hend),Y3.J2,decide_eq_true (he ▸ Yae hend)]
     ·have hno : t ∉ es := fun hm => by
       obtain ⟨_,h2⟩ := hp.here hs hm
       exact he h2
      rw [if_neg he,obs,a2,obs,show Y37.f es[i] = some false by simp [Y37.f],obs,if_neg (by simp),Y3.J3,if_pos (by simpa using hend),if_neg (by simpa using he),Y3.J1,if_pos (by simpa using hend),Y3.J2,decide_eq_false hno]
    ·have hno : t ∉ es := fun hm => by
      obtain ⟨h1,_⟩ := hp.here hs hm
      exact hend h1
     rw [if_neg (by omega),Y3.J2,decide_eq_false hno]
 rw [Y3.f,hsl]
 exact hloop k 0 es.length (by omega) (Yak _) (Yaa _) (fun q hq h => by omega) (fun q hq h => by omega)
structure SI (p : Nat) (s : Sl) (xs : List Ky) (S : HS) : Prop where
 cell : S.heap p = .cells 1 [[s.hv]] true
 ov : OV S 1 s (xs.map row1)
 ne : ∀ q,s.a = some q → q.1 ≠ p
 hi : p < S.next
 srt : Srt xs
 cnt : xs.length ≤ 1000
theorem SI.lt {p : Nat} {s : Sl} {xs : List Ky} {S : HS} (h : SI p s xs S) {id : Nat} (ho : Own p s id) : id < S.next := by
 rcases ho with rfl | ⟨q,h1,rfl⟩
 ·exact h.hi
 ·exact h.ov.lt h1
theorem SI.keep {p : Nat} {s : Sl} {xs : List Ky} {S S' : HS} (h : SI p s xs S) (he : ∀ id,Own p s id → S'.heap id = S.heap id) (hn : S.next ≤ S'.next) : SI p s xs S' :=
 ⟨(he p (.inl rfl)).trans h.cell,h.ov.keep (fun q hq => he q.1 (.inr ⟨q,hq,rfl⟩)) hn,h.ne,Yai h.hi hn,h.srt,h.cnt⟩
theorem SI.fr {p : Nat} {s : Sl} {xs : List Ky} {S S' : HS} (h : SI p s xs S) (hf : Fr S.next S S') : SI p s xs S' := h.keep (fun id ho => hf.eq id (h.lt ho)) hf.le
theorem SI.ld {p : Nat} {s : Sl} {xs : List Ky} {S : HS} (h : SI p s xs S) : S.ldSl (HA.fld (HA.cell0 p) 0) = some s := Zy4 (Zxu h.cell) rfl rfl
theorem SI.slen {p : Nat} {s : Sl} {xs : List Ky} {S : HS} (h : SI p s xs S) : (s.len : Int) = xs.length := by rw [h.ov.len]; simp
theorem set_put {p : Nat} {s s' : Sl} {S : HS} (h : S.heap p = .cells 1 [[s.hv]] true) : S.sets (HA.fld (HA.cell0 p) 0) [s'.hv] = some (S.put p (.cells 1 [[s'.hv]] true)) := (Zyv h rfl (by simp)).trans rfl
theorem ins_spec {p : Nat} {s : Sl} {xs : List Ky} {S : HS} (h : SI p s xs S) {t : Ky} {i : Nat} (hp : PosOf xs t i) (hno : t ∉ xs) (hroom : xs.length < 1000) :
  ∃ s' S' S1,Y100.f s (i : Int) (S.lit [[.str t]] 1).1 (S.lit [[.str t]] 1).2 = some (s',S1) ∧ S1.sets (HA.fld (HA.cell0 p) 0) [s'.hv] = some S' ∧ SI p s' (xs.take i ++ [t] ++ xs.drop i) S' ∧ Only p s s' S S' := by
 obtain ⟨s',S1,a1,a2,a3,a4,a5⟩ := Zag1 (row := row1 t) h.ov (i := i) (by simpa using hp.le) (by simp; omega)
 have hcell : S1.heap p = .cells 1 [[s.hv]] true := by rw [a4 p h.hi h.ne]; exact h.cell
 have hne' : ∀ q,s'.a = some q → q.1 ≠ p := fun q hq => by have := a5 q hq; have := h.hi; omega
 refine ⟨s',_,S1,a1,set_put hcell,⟨Zxv _ _ _,?_,hne',Yai h.hi a3,ins_srt hp h.srt hno,by simp; omega⟩,⟨by rw [Zxw]; exact a3,fun id g1 g2 => ?_,fun id ho => ?_⟩⟩
 ·have hm : (xs.take i ++ [t] ++ xs.drop i).map row1 = (xs.map row1).take i ++ [row1 t] ++ (xs.map row1).drop i := by simp only [Yau,List.map_take,List.map_drop,List.map_cons,List.map_nil]
  rw [hm]
  exact a2.keep (fun q hq => Zxe _ (hne' q hq)) (Yaa _)
 ·rw [Zxe _ (fun e => g2 (.inl e))]
  exact a4 id g1 (fun q hq e => g2 (.inr ⟨q,hq,e⟩))
 ·rcases ho with g | ⟨q,g1,g2⟩
  ·exact .inl (.inl g)
  ·right; rw [← g2]; exact a5 q g1
theorem del_spec {p : Nat} {s : Sl} {xs : List Ky} {S : HS} (h : SI p s xs S) {i : Nat} (hi : i < xs.length) :
  ∃ s' S' S1,Y102.f s (i : Int) ((i + 1 : Nat) : Int) S = some (s',S1) ∧ S1.sets (HA.fld (HA.cell0 p) 0) [s'.hv] = some S' ∧ SI p s' (xs.eraseIdx i) S' ∧ Only p s s' S S' := by
 have hcnt := h.cnt
 obtain ⟨s',S1,a1,a2,a3,a4,a5⟩ := Zag2 h.ov (i := i) (by simpa using hi) (by simp; omega)
 have hcell : S1.heap p = .cells 1 [[s.hv]] true := by rw [a4 p h.hi h.ne]; exact h.cell
 have hne' : ∀ q,s'.a = some q → q.1 ≠ p := fun q hq => by have := a5 q hq; have := h.hi; omega
 refine ⟨s',_,S1,a1,set_put hcell,⟨Zxv _ _ _,?_,hne',Yai h.hi a3,erase_srt h.srt i,by rw [List.length_eraseIdx,if_pos hi]; omega⟩,⟨by rw [Zxw]; exact a3,fun id g1 g2 => ?_,fun id ho => ?_⟩⟩
 ·rw [Go.ChangeMaps.map_eraseIdx]
  exact a2.keep (fun q hq => Zxe _ (hne' q hq)) (Yaa _)
 ·rw [Zxe _ (fun e => g2 (.inl e))]
  exact a4 id g1 (fun q hq e => g2 (.inr ⟨q,hq,e⟩))
 ·rcases ho with g | ⟨q,g1,g2⟩
  ·exact .inl (.inl g)
  ·right; rw [← g2]; exact a5 q g1
theorem add_spec {k p : Nat} {s sl : Sl} {xs ls : List Ky} {S : HS} (hk : 2000 ≤ k) (h : SI p s xs S) (hr : S.rows sl 1 = some (ls.map row1)) (hlt : ∀ q,sl.a = some q → q.1 < S.next ∧ ¬ Own p s q.1) (hc : xs.length + ls.length ≤ 1000) :
  ∃ s' xs' S',Y23.f k (some (HA.cell0 p)) sl S = some ((xs'.length : Int) - xs.length,S') ∧ SI p s' xs' S' ∧ Only p s s' S S' ∧ (∀ v,v ∈ xs' ↔ v ∈ xs ∨ v ∈ ls) ∧ xs.length ≤ xs'.length ∧ xs'.length ≤ xs.length + ls.length := by
 have hsl : (sl.len : Int) = ls.length := by rw [← Zx7 hr]; simp
 have hloop : ∀ (f i : Nat) (T : HS) (s1 : Sl) (ys : List Ky),ls.length - i < f → i ≤ ls.length → SI p s1 ys T → Only p s s1 S T → (∀ v,v ∈ ys ↔ v ∈ xs ∨ v ∈ ls.take i) → xs.length ≤ ys.length → ys.length ≤ xs.length + i →
   ∃ s' xs' S',Y23.L0 k f (some (HA.cell0 p)) ((ys.length : Int) - xs.length) sl (ls.length : Int) (i : Int) T = some ((xs'.length : Int) - xs.length,S') ∧ SI p s' xs' S' ∧ Only p s s' S S' ∧ (∀ v,v ∈ xs' ↔ v ∈ xs ∨ v ∈ ls) ∧ xs.length ≤ xs'.length ∧ xs'.length ≤ xs.length + ls.length := by
  intro f
  induction f with
  | zero => intro i T s1 ys h; omega
  | succ f ih =>
   intro i T s1 ys hf hi hT hO hm hge hle
   have hrT : T.rows sl 1 = some (ls.map row1) := Zyc hr fun q hq => hO.eq q.1 (hlt q hq).1 (hlt q hq).2
   rw [Y23.L0]
   by_cases hil : i < ls.length
   ·obtain ⟨ad,a1,a2⟩ := ldK_at hrT hil
    obtain ⟨j,b1,hp⟩ := bs_spec (t := ls[i]) hk hT.srt hT.cnt hT.ov.rows
    have hmem : ∀ v,(v ∈ ls.take (i + 1) ↔ v ∈ ls.take i ∨ v = ls[i]) := fun v => by rw [Yaf hil,Yab,Yaq]
    rw [if_pos (by omega),a1,obs,a2,obs,obs,hT.ld,obs,b1,obs]
    simp only
    by_cases hin : ls[i] ∈ ys
    ·rw [decide_eq_true hin,if_neg (by simp),Y23.J1,Zx6 (by omega) (by omega),show ((i : Int) + 1) = ((i + 1 : Nat) : Int) by simp]
     refine ih (i + 1) T s1 ys (by omega) (by omega) hT hO (fun v => ?_) hge (by omega)
     rw [hmem,← or_assoc,← hm]
     exact ⟨fun h => .inl h,fun h => h.elim id (fun e => e ▸ hin)⟩
    ·obtain ⟨s2,T2,T1,c1,c2,c3,c4⟩ := ins_spec hT hp hin (by omega)
     have hlen : (ys.take j ++ [ls[i]] ++ ys.drop j).length = ys.length + 1 := by
      have := hp.le
      simp only [Ya3,Yar,Ya1,List.length_singleton]; omega
     rw [decide_eq_false hin,if_pos (by simp),obs,hT.ld,obs,letv,c1,obs,obs,c2,obs,Y23.J1,Zx6 (n := (i : Int) + 1) (by omega) (by omega),show ((i : Int) + 1) = ((i + 1 : Nat) : Int) by simp,Zx6 (by omega) (by omega)]
     have e : (ys.length : Int) - xs.length + 1 = ((ys.take j ++ [ls[i]] ++ ys.drop j).length : Int) - xs.length := by rw [hlen]; omega
     rw [e]
     refine ih (i + 1) T2 s2 _ (by omega) (by omega) c3 (hO.trans c4) (fun v => ?_) (by omega) (by omega)
     rw [ins_mem,hmem,← or_assoc,← hm]
   ·obtain rfl : i = ls.length := by omega
    rw [if_neg (by omega)]
    rw [Yao] at hm
    exact ⟨s1,ys,T,rfl,hT,hO,hm,hge,hle⟩
 rw [Y23.f,if_neg (by simp),hsl]
 have := hloop k 0 S s xs (by omega) (Yak _) h (Only.refl _ _ _) (fun v => by simp) (Yaa _) (by omega)
 rw [show ((xs.length : Int) - xs.length) = 0 by omega] at this
 exact this
theorem remove_spec {k p : Nat} {s sl : Sl} {xs ls : List Ky} {S : HS} (hk : 2000 ≤ k) (h : SI p s xs S) (hr : S.rows sl 1 = some (ls.map row1)) (hlt : ∀ q,sl.a = some q → q.1 < S.next ∧ ¬ Own p s q.1) (hc : ls.length ≤ 1000) :
  ∃ s' xs' S',Y42.f k (some (HA.cell0 p)) sl S = some ((xs.length : Int) - xs'.length,S') ∧ SI p s' xs' S' ∧ Only p s s' S S' ∧ (∀ v,v ∈ xs' ↔ v ∈ xs ∧ v ∉ ls) ∧ xs'.length ≤ xs.length := by
 have hsl : (sl.len : Int) = ls.length := by rw [← Zx7 hr]; simp
 have hcnt := h.cnt
 have hloop : ∀ (f i : Nat) (T : HS) (s1 : Sl) (ys : List Ky),ls.length - i < f → i ≤ ls.length → SI p s1 ys T → Only p s s1 S T → (∀ v,v ∈ ys ↔ v ∈ xs ∧ v ∉ ls.take i) → ys.length ≤ xs.length →
   ∃ s' xs' S',Y42.L0 k f (some (HA.cell0 p)) ((xs.length : Int) - ys.length) sl (ls.length : Int) (i : Int) T = some ((xs.length : Int) - xs'.length,S') ∧ SI p s' xs' S' ∧ Only p s s' S S' ∧ (∀ v,v ∈ xs' ↔ v ∈ xs ∧ v ∉ ls) ∧ xs'.length ≤ xs.length := by
  intro f
  induction f with
  | zero => intro i T s1 ys h; omega
  | succ f ih =>
   intro i T s1 ys hf hi hT hO hm hle
   have hrT : T.rows sl 1 = some (ls.map row1) := Zyc hr fun q hq => hO.eq q.1 (hlt q hq).1 (hlt q hq).2
   rw [Y42.L0]
   by_cases hil : i < ls.length
   ·obtain ⟨ad,a1,a2⟩ := ldK_at hrT hil
    obtain ⟨j,b1,hp⟩ := bs_spec (t := ls[i]) hk hT.srt hT.cnt hT.ov.rows
    have hmem : ∀ v,(v ∉ ls.take (i + 1) ↔ v ∉ ls.take i ∧ v ≠ ls[i]) := fun v => by rw [Yaf hil,Yab,Yaq,not_or]
    rw [if_pos (by omega),a1,obs,a2,obs,obs,hT.ld,obs,b1,obs]
    simp only
    by_cases hin : ls[i] ∈ ys
    ·obtain ⟨hj,he⟩ := hp.here hT.srt hin
     obtain ⟨s2,T2,T1,c1,c2,c3,c4⟩ := del_spec hT hj
     have hlen : (ys.eraseIdx j).length = ys.length - 1 := by rw [List.length_eraseIdx,if_pos hj]
     rw [decide_eq_true hin,if_pos rfl,obs,hT.ld,obs,Zx6 (n := (j : Int) + 1) (by omega) (by omega),show ((j : Int) + 1) = ((j + 1 : Nat) : Int) by simp,c1,obs,obs,c2,obs,Y42.J1,Zx6 (n := (i : Int) + 1) (by omega) (by omega),show ((i : Int) + 1) = ((i + 1 : Nat) : Int) by simp,Zx6 (by omega) (by omega)]
     have e : (xs.length : Int) - ys.length + 1 = (xs.length : Int) - ((ys.eraseIdx j).length : Int) := by rw [hlen]; omega
     rw [e]
     refine ih (i + 1) T2 s2 _ (by omega) (by omega) c3 (hO.trans c4) (fun v => ?_) (by omega)
     rw [erase_mem hT.srt hj,hmem,← and_assoc,← hm,he]
    ·rw [decide_eq_false hin,if_neg (by simp),Y42.J1,Zx6 (by omega) (by omega),show ((i : Int) + 1) = ((i + 1 : Nat) : Int) by simp]
     refine ih (i + 1) T s1 ys (by omega) (by omega) hT hO (fun v => ?_) hle
     rw [hmem,← and_assoc,← hm]
     exact ⟨fun h => ⟨h,fun e => hin (e ▸ h)⟩,fun h => h.1⟩
   ·obtain rfl : i = ls.length := by omega
    rw [if_neg (by omega)]
    rw [Yao] at hm
    exact ⟨s1,ys,T,rfl,hT,hO,hm,hle⟩
 rw [Y42.f,if_neg (by simp),hsl]
 have := hloop k 0 S s xs (by omega) (Yak _) h (Only.refl _ _ _) (fun v => by simp) (Yaa _)
 rw [show ((xs.length : Int) - xs.length) = 0 by omega] at this
 exact this
theorem len_spec {p : Nat} {s : Sl} {xs : List Ky} {S : HS} (h : SI p s xs S) : Y29.f (some (HA.cell0 p)) S = some ((xs.length : Int),S) := by
 rw [Y29.f,if_neg (by simp),obs,h.ld,obs,h.slen]
theorem of_spec {k : Nat} {sl : Sl} {ls : List Ky} {S : HS} (hk : 2000 ≤ k) (hr : Rd S.next S 1 sl (ls.map row1)) (hc : ls.length ≤ 1000) :
  ∃ s' xs' S',Y73.f k sl S = some (some (HA.cell0 S.next),S') ∧ SI S.next s' xs' S' ∧ Fr S.next S S' ∧ (∀ id,Own S.next s' id → S.next ≤ id) ∧ (∀ v,v ∈ xs' ↔ v ∈ ls) ∧ xs'.length ≤ ls.length := by
 have fn : Fr S.next S (S.new (.cells 1 [[Sl.nil.hv]] true)) := Fr.new (Yaa _) _
 have h0 : SI S.next Sl.nil [] (S.new (.cells 1 [[Sl.nil.hv]] true)) := ⟨Zxx _ _,.inl ⟨rfl,rfl,rfl⟩,fun q hq => (by cases hq),Yaw _,List.Pairwise.nil,by simp⟩
 have nn : (S.new (.cells 1 [[Sl.nil.hv]] true)).next = S.next + 1 := rfl
 obtain ⟨s',xs',S',e,g1,g2,g3,g4,g5⟩ := add_spec hk h0 (hr.frame fn (Yaa _)).rows (fun q hq => ⟨by have := hr.lt q hq; omega,fun ho => by
  rcases ho with g | ⟨q',g,_⟩
  ·have := hr.lt q hq; omega
  ·cases g⟩) (by simpa using hc)
 rw [Y73.f,letv,e,obs]
 refine ⟨s',xs',S',rfl,g1,⟨by have := g2.le; omega,fun id hid => ?_⟩,fun id ho => ?_,fun v => by rw [g3]; simp,by simpa using g5⟩
 ·rw [g2.eq id (by omega) (fun ho => by
   rcases ho with g | ⟨q',g,_⟩
   ·omega
   ·cases g)]
  exact fn.eq id hid
 ·rcases g2.own id ho with g | g
  ·rcases g with g | ⟨q',g,_⟩
   ·omega
   ·cases g
  ·omega
end KS
namespace KI
theorem list_spec {p : Nat} {s : Sl} {xs : List Ky} {S : HS} (h : SI p s xs S) : ∃ s' S',Y84.f (some (HA.cell0 p)) S = some (s',S') ∧ S'.rows s' 1 = some (xs.map row1) ∧ (∀ q,s'.a = some q → S.next ≤ q.1 ∧ q.1 < S'.next) ∧ Fr S.next S S' := by
 rw [Y84.f,if_neg (by simp),obs,h.ld,obs,Y91.f]
 by_cases ha : s.a.isNone = true
 ·rw [if_pos ha,obs]
  refine ⟨_,S,rfl,?_,fun q hq => (by cases hq),Fr.refl _ _⟩
  rw [h.ov.none (by simpa using ha)]; rfl
 ·have hcnt := h.cnt
  rw [if_neg ha,letv]
  have hl := Vec.lit (n := S.next) (z := 1) (S := S) [] (Yaa _)
  have hr' : (S.lit [] 1).2.rows s 1 = some (xs.map row1) := (h.ov.rd.frame (Zzd [] (Yaa _)) (Yaa _)).rows
  obtain ⟨s',S1,e1,v1,f1⟩ := hl.app (new := xs.map row1) (Nat.le_succ _) (by simp; omega)
  rw [hr',obs,e1,obs,obs]
  rw [Yay] at v1
  exact ⟨s',S1,rfl,v1.rows,v1.lo,(Zzd [] (Yaa _)).trans f1⟩
theorem app1_spec {n : Nat} {S : HS} {s : Sl} {xs : List Ky} (t : Ky) (h : Vec n S 1 s (xs.map row1)) (hn : n ≤ S.next) (hl : xs.length < 1000000) :
  ∃ s' S',HS.app (S.lit [[.int .i64 t]] 1).2 s [[.int .i64 t]] 1 = some (s',S') ∧ (S.lit [[.int .i64 t]] 1).2.rows (S.lit [[.int .i64 t]] 1).1 1 = some [[.int .i64 t]] ∧ Vec n S' 1 s' ((xs ++ [t]).map row1) ∧ Fr n S S' ∧ (∀ id,id < S.next → (∀ q,s.a = some q → q.1 ≠ id) → S'.heap id = S.heap id) ∧ (∀ q,s'.a = some q → S.next ≤ q.1 ∨ ∃ q0,s.a = some q0 ∧ q0.1 = q.1) := by
 have fl : Fr S.next S (S.lit [[.int .i64 t]] 1).2 := Zzd _ (Yaa _)
 have nl : (S.lit [[.int .i64 t]] 1).2.next = S.next + 1 := rfl
 obtain ⟨s',S',e1,v1,f1,k1,q1⟩ := (h.frame fl (Yaa _)).app2 (new := [[.int .i64 t]]) (by omega) (by simp; omega)
 refine ⟨s',S',e1,(Vec.lit (n := 0) (z := 1) (S := S) _ (Yak _)).rows,by rw [Yau]; exact v1,(fl.mono hn).trans f1,fun id h1 h2 => (k1 id (by omega) h2).trans (fl.eq id h1),fun q hq => ?_⟩
 rcases q1 q hq with g | g
 ·exact .inl (by omega)
 ·exact .inr g
end KI
namespace KS
theorem has_spec {k p : Nat} {s : Sl} {xs : List Ky} {S : HS} (hk : 2000 ≤ k) (h : SI p s xs S) (t : Ky) : Y66.f k (some (HA.cell0 p)) t S = some (decide (t ∈ xs),S) := by
 obtain ⟨j,b1,hp⟩ := bs_spec (t := t) hk h.srt h.cnt h.ov.rows
 rw [Y66.f,if_neg (by simp),obs,h.ld,obs,b1,obs]
theorem list_spec {p : Nat} {s : Sl} {xs : List Ky} {S : HS} (h : SI p s xs S) : ∃ s' S',Y62.f (some (HA.cell0 p)) S = some (s',S') ∧ S'.rows s' 1 = some (xs.map row1) ∧ (∀ q,s'.a = some q → S.next ≤ q.1 ∧ q.1 < S'.next) ∧ Fr S.next S S' := by
 rw [Y62.f,if_neg (by simp),obs,h.ld,obs,Y94.f]
 by_cases ha : s.a.isNone = true
 ·rw [if_pos ha,obs]
  refine ⟨_,S,rfl,?_,fun q hq => (by cases hq),Fr.refl _ _⟩
  rw [h.ov.none (by simpa using ha)]; rfl
 ·have hcnt := h.cnt
  rw [if_neg ha,letv]
  have hl := Vec.lit (n := S.next) (z := 1) (S := S) [] (Yaa _)
  have hr' : (S.lit [] 1).2.rows s 1 = some (xs.map row1) := (h.ov.rd.frame (Zzd [] (Yaa _)) (Yaa _)).rows
  obtain ⟨s',S1,e1,v1,f1⟩ := hl.app (new := xs.map row1) (Nat.le_succ _) (by simp; omega)
  rw [hr',obs,e1,obs,obs]
  rw [Yay] at v1
  exact ⟨s',S1,rfl,v1.rows,v1.lo,(Zzd [] (Yaa _)).trans f1⟩
theorem values_tells {k n c : Nat} {B : HS} {s : Sl} {xs : List Ky} (hk : xs.length < k) (hx : xs.length ≤ 1000000) (hc : B.heap c = .cells 1 [[s.hv]] true) (hr : B.rows s 1 = some (xs.map row1)) (K : Nat → Prop) (hK : K c ∧ ∀ q,s.a = some q → K q.1) :
  Tells (disp k (n + 2)) (.fn (.func 130) [] [.ptr (some (HA.cell0 c))]) (xs.map row1) K B := by
 intro H l I Stop ht O S hI hB
 have hlen : (xs.map row1).length = xs.length := by simp
 have hcS : S.heap c = .cells 1 [[s.hv]] true := (hB c hK.1).1.trans hc
 have hrS : S.rows s 1 = some (xs.map row1) := Zyc hr fun q hq => (hB q.1 (hK.2 q hq)).1
 have hloop : ∀ f i O1 T,xs.length - i < f → i ≤ xs.length → I i O1 T → S.next ≤ T.next → (∀ id,id < S.next → ¬ O id → T.heap id = S.heap id) → (∀ id,O1 id → O id ∨ S.next ≤ id) →
   ∃ S' O',Y59.L0 (disp k (n + 1)) H k f (.fn (.yield l) [] []) s (xs.length : Int) (i : Int) T = some ((),S') ∧ S.next ≤ S'.next ∧ (∀ id,id < S.next → ¬ O id → S'.heap id = S.heap id) ∧ (∀ id,O' id → O id ∨ S.next ≤ id) ∧ (I xs.length O' S' ∨ Stop O' S') := by
  intro f
  induction f with
  | zero => intro i O1 T h; omega
  | succ f ih =>
   intro i O1 T hf hi hIT hn hk2 hO
   rw [Y59.L0]
   by_cases hlt : i < xs.length
   ·have hrT : T.rows s 1 = some (xs.map row1) := Zyc hrS fun q hq => hk2 q.1 (hB q.1 (hK.2 q hq)).2.2 (hB q.1 (hK.2 q hq)).2.1
    obtain ⟨ad,a1,a2⟩ := ldK_at hrT hlt
    obtain ⟨b,T2,O2,e2,n2,k2,o2,g1,g2⟩ := ht.step i (by omega) O1 T hIT
    have he : disp k (n + 1) H (.fn (.yield l) [] []) [.str xs[i]] T = some (.bool b,T2) := by
     rw [Zaa0,← e2,Yaj]; rfl
    have hk3 : ∀ id,id < S.next → ¬ O id → T2.heap id = S.heap id := fun id h1 h2 => (k2 id (by omega) (fun ho => (hO id ho).elim h2 (fun h => by omega))).trans (hk2 id h1 h2)
    have hO3 : ∀ id,O2 id → O id ∨ S.next ≤ id := fun id h => (o2 id h).elim (hO id) (fun h => .inr (by omega))
    rw [if_pos (by omega),a1,obs,a2,obs,he,obs]
    simp only [dB,obs]
    cases b with
    | false => exact ⟨T2,O2,rfl,by omega,hk3,hO3,.inr (g2 rfl)⟩
    | true =>
     rw [if_neg (by simp),Zx6 (by omega) (by omega),show ((i : Int) + 1) = ((i + 1 : Nat) : Int) by simp]
     exact ih (i + 1) O2 T2 (by omega) (by omega) (g1 rfl) (by omega) hk3 hO3
   ·obtain rfl : i = xs.length := by omega
    rw [if_neg (by omega)]
    exact ⟨T,O1,rfl,hn,hk2,hO,.inl hIT⟩
 obtain ⟨S',O',e,h1,h2,h3,h4⟩ := hloop k 0 O S (by omega) (Yak _) hI (Yaa _) (fun _ _ _ => rfl) (fun _ h => .inl h)
 refine ⟨S',O',?_,h1,h2,h3,by rw [hlen]; exact h4⟩
 rw [Zz8]
 have hsl : (s.len : Int) = xs.length := by rw [← Zx7 hrS]; simp
 have e' : Zaay (disp k (n + 1)) H k ([] ++ [HV.fn (.yield l) [] []] ++ [.ptr (some (HA.cell0 c))]) S = some (.tup [],S') := by
  rw [Zaay]
  simp only [Yay,List.cons_append,Zaae,obs,dF,dP]
  rw [Y59.f,obs,Zy8 hcS,obs,hsl]
  erw [e]
  rfl
 repeat rw [if_neg (by decide)]
 rw [if_pos rfl,e']
theorem all_spec {p : Nat} {s : Sl} {xs : List Ky} {S : HS} (h : SI p s xs S) : ∃ c s' S',Y67.f (some (HA.cell0 p)) S = some (.fn (.func 130) [] [.ptr (some (HA.cell0 c))],S') ∧ S'.heap c = .cells 1 [[s'.hv]] true ∧ S'.rows s' 1 = some (xs.map row1) ∧ (S.next ≤ c ∧ c < S'.next) ∧ (∀ q,s'.a = some q → S.next ≤ q.1 ∧ q.1 < S'.next) ∧ Fr S.next S S' := by
 obtain ⟨s',S1,e1,r1,q1,f1⟩ := list_spec h
 rw [Y67.f,e1,obs,Y85.f,letv,obs]
 have hrd : Rd S1.next S1 1 s' (xs.map row1) := ⟨r1,fun q hq => (q1 q hq).2⟩
 exact ⟨S1.next,s',_,rfl,Zxx _ _,(hrd.frame (Fr.new (Yaa _) _) (Yaa _)).rows,⟨f1.le,Yaw _⟩,fun q hq => ⟨(q1 q hq).1,Nat.lt_succ_of_lt (q1 q hq).2⟩,f1.trans (Fr.new f1.le _)⟩
theorem app1_spec {n : Nat} {S : HS} {s : Sl} {xs : List Ky} (t : Ky) (h : Vec n S 1 s (xs.map row1)) (hn : n ≤ S.next) (hl : xs.length < 1000000) :
  ∃ s' S',HS.app (S.lit [[.str t]] 1).2 s [[.str t]] 1 = some (s',S') ∧ (S.lit [[.str t]] 1).2.rows (S.lit [[.str t]] 1).1 1 = some [[.str t]] ∧ Vec n S' 1 s' ((xs ++ [t]).map row1) ∧ Fr n S S' ∧ (∀ id,id < S.next → (∀ q,s.a = some q → q.1 ≠ id) → S'.heap id = S.heap id) ∧ (∀ q,s'.a = some q → S.next ≤ q.1 ∨ ∃ q0,s.a = some q0 ∧ q0.1 = q.1) := by
 have fl : Fr S.next S (S.lit [[.str t]] 1).2 := Zzd _ (Yaa _)
 have nl : (S.lit [[.str t]] 1).2.next = S.next + 1 := rfl
 obtain ⟨s',S',e1,v1,f1,k1,q1⟩ := (h.frame fl (Yaa _)).app2 (new := [[.str t]]) (by omega) (by simp; omega)
 refine ⟨s',S',e1,(Vec.lit (n := 0) (z := 1) (S := S) _ (Yak _)).rows,by rw [Yau]; exact v1,(fl.mono hn).trans f1,fun id h1 h2 => (k1 id (by omega) h2).trans (fl.eq id h1),fun q hq => ?_⟩
 rcases q1 q hq with g | g
 ·exact .inl (by omega)
 ·exact .inr g
end KS
namespace MA
abbrev Kk := KI.Ky
abbrev Vv := KS.Ky
structure En where
 key : Kk
 p : Nat
 s : Sl
 xs : List Vv
def ent (e : En) : HV × HV := (KI.kv e.key,.ptr (some (HA.cell0 e.p)))
theorem kSame_kv (a b : Kk) : Zab2 (KI.kv a) (KI.kv b) = some (a == b) := by simp [Zab2,Zyn,KI.kv]
theorem mf_none {k : Kk} : ∀ {E : List En} (i : Nat),(∀ e ∈ E,e.key ≠ k) → mfind (KI.kv k) (E.map ent) i = some none := by
 intro E
 induction E with
 | nil => intro i _; rfl
 | cons e E ih =>
  intro i h
  rw [List.map_cons,mfind.eq_def]
  simp only [ent,kSame_kv,show (k == e.key) = false from beq_eq_false_iff_ne.2 (fun g => h e (by simp) g.symm)]
  exact ih (i + 1) fun x hx => h x (by simp [hx])
theorem mf_at {k : Kk} {e : En} {B : List En} (hk : e.key = k) : ∀ {A : List En} (i : Nat),(∀ a ∈ A,a.key ≠ k) → mfind (KI.kv k) ((A ++ e :: B).map ent) i = some (some (i + A.length,.ptr (some (HA.cell0 e.p)))) := by
 intro A
 induction A with
 | nil =>
  intro i _
  rw [Yay,List.map_cons,mfind.eq_def]
  simp only [ent,kSame_kv,hk,beq_self_eq_true]
  rfl
 | cons a A ih =>
  intro i h
  rw [List.cons_append,List.map_cons,mfind.eq_def]
  simp only [ent,kSame_kv,show (k == a.key) = false from beq_eq_false_iff_ne.2 (fun g => h a (by simp) g.symm)]
  rw [ih (i + 1) fun x hx => h x (by simp [hx])]
  simp; omega
structure MS (m : Nat) (E : List En) (S : HS) : Prop where
 mp : S.heap m = .map (E.map ent)
 nd : E.Pairwise fun a b => a.key ≠ b.key
 si : ∀ e ∈ E,KS.SI e.p e.s e.xs S
 dis : E.Pairwise fun a b => ∀ id,Own a.p a.s id → ¬ Own b.p b.s id
 nm : ∀ e ∈ E,¬ Own e.p e.s m
 lt : m < S.next
def OM (m : Nat) (E : List En) (id : Nat) : Prop := id = m ∨ ∃ e ∈ E,Own e.p e.s id
def mem (E : List En) (k : Kk) (v : Vv) : Prop := ∃ e ∈ E,e.key = k ∧ v ∈ e.xs
theorem MS.ltO {m : Nat} {E : List En} {S : HS} (h : MS m E S) {id : Nat} (ho : OM m E id) : id < S.next := by
 rcases ho with rfl | ⟨e,he,ho⟩
 ·exact h.lt
 ·exact (h.si e he).lt ho
theorem MS.keep {m : Nat} {E : List En} {S S' : HS} (h : MS m E S) (hk : ∀ id,OM m E id → S'.heap id = S.heap id) (hn : S.next ≤ S'.next) : MS m E S' :=
 ⟨(hk m (.inl rfl)).trans h.mp,h.nd,fun e he => (h.si e he).keep (fun id ho => hk id (.inr ⟨e,he,ho⟩)) hn,h.dis,h.nm,Yai h.lt hn⟩
theorem MS.fr {m : Nat} {E : List En} {S S' : HS} (h : MS m E S) (hf : Fr S.next S S') : MS m E S' := h.keep (fun id ho => hf.eq id (h.ltO ho)) hf.le
theorem split_at {E : List En} {k : Kk} (hn : E.Pairwise fun a b => a.key ≠ b.key) {e : En} (he : e ∈ E) (hk : e.key = k) : ∃ A B,E = A ++ e :: B ∧ ∀ a ∈ A,a.key ≠ k := by
 obtain ⟨A,B,rfl⟩ := Ybb he
 refine ⟨A,B,rfl,fun a ha => ?_⟩
 rw [Yad] at hn
 have := hn.2.2 a ha e (by simp)
 rw [← hk]; exact this
theorem get_spec {m : Nat} {E : List En} {S : HS} (h : MS m E S) (k : Kk) : (S.look (some m) (KI.kv k) = some none ∧ ∀ e ∈ E,e.key ≠ k) ∨ ∃ A e B,E = A ++ e :: B ∧ e.key = k ∧ (∀ a ∈ A,a.key ≠ k) ∧ S.look (some m) (KI.kv k) = some (some (.ptr (some (HA.cell0 e.p)))) := by
 by_cases hx : ∃ e ∈ E,e.key = k
 ·obtain ⟨e,he,hk⟩ := hx
  obtain ⟨A,B,rfl,hA⟩ := split_at h.nd he hk
  refine .inr ⟨A,e,B,rfl,hk,hA,?_⟩
  rw [HS.look,HS.mp,h.mp,obs,mf_at hk 0 hA]; rfl
 ·refine .inl ⟨?_,fun e he g => hx ⟨e,he,g⟩⟩
  rw [HS.look,HS.mp,h.mp,obs,mf_none 0 fun e he g => hx ⟨e,he,g⟩]; rfl
theorem MS.upd {m : Nat} {A B : List En} {e : En} {s' : Sl} {xs' : List Vv} {S S' : HS} (h : MS m (A ++ e :: B) S) (hs : KS.SI e.p s' xs' S') (ho : Only e.p e.s s' S S') :
  MS m (A ++ ⟨e.key,e.p,s',xs'⟩ :: B) S' ∧ Chg (OM m (A ++ e :: B)) (OM m (A ++ ⟨e.key,e.p,s',xs'⟩ :: B)) S S' := by
 have hle := ho.le
 have hd := h.dis
 rw [Yad,Yah] at hd
 have hn := h.nd
 rw [Yad,Yah] at hn
 have hso : ∀ id,Own e.p s' id → Own e.p e.s id ∨ S.next ≤ id := ho.own
 have hoth : ∀ a,a ∈ A ∨ a ∈ B → a ∈ A ++ e :: B ∧ ∀ id,Own a.p a.s id → ¬ Own e.p e.s id := fun a ha => by
  rcases ha with g | g
  ·exact ⟨by simp [g],fun id h1 h2 => hd.2.2 a g e (by simp) id h1 h2⟩
  ·exact ⟨by simp [g],fun id h1 h2 => hd.2.1.1 a g id h2 h1⟩
 have hnew : ∀ a,a ∈ A ∨ a ∈ B → ∀ id,Own a.p a.s id → ¬ Own e.p s' id := fun a ha id h1 h2 => by
  rcases hso id h2 with g | g
  ·exact (hoth a ha).2 id h1 g
  ·have := (h.si a (hoth a ha).1).lt h1; omega
 refine ⟨⟨?_,?_,fun x hx => ?_,?_,fun x hx => ?_,by have := h.lt; omega⟩,⟨hle,fun id h1 h2 => ho.eq id h1 fun g => h2 (.inr ⟨e,by simp,g⟩),fun id hid => ?_⟩⟩
 ·rw [ho.eq m h.lt (h.nm e (by simp)),h.mp]
  simp [ent]
 ·rw [Yad,Yah]
  refine ⟨hn.1,⟨hn.2.1.1,hn.2.1.2⟩,fun a ha b hb => ?_⟩
  rcases Yac.1 hb with rfl | hb
  ·exact hn.2.2 a ha e (by simp)
  ·exact hn.2.2 a ha b (by simp [hb])
 ·rcases Yab.1 hx with g | g
  ·exact (h.si x (by simp [g])).keep (fun id h1 => ho.eq id ((h.si x (by simp [g])).lt h1) ((hoth x (.inl g)).2 id h1)) hle
  ·rcases Yac.1 g with rfl | g
   ·exact hs
   ·exact (h.si x (by simp [g])).keep (fun id h1 => ho.eq id ((h.si x (by simp [g])).lt h1) ((hoth x (.inr g)).2 id h1)) hle
 ·rw [Yad,Yah]
  refine ⟨hd.1,⟨fun b hb id h1 h2 => hnew b (.inr hb) id h2 h1,hd.2.1.2⟩,fun a ha b hb => ?_⟩
  rcases Yac.1 hb with rfl | hb
  ·exact hnew a (.inl ha)
  ·exact hd.2.2 a ha b (by simp [hb])
 ·rcases Yab.1 hx with g | g
  ·exact h.nm x (by simp [g])
  ·rcases Yac.1 g with rfl | g
   ·intro g'
    rcases hso m g' with g2 | g2
    ·exact h.nm e (by simp) g2
    ·have := h.lt; omega
   ·exact h.nm x (by simp [g])
 ·rcases hid with rfl | ⟨x,hx,g⟩
  ·exact .inl (.inl rfl)
  ·rcases Yab.1 hx with g' | g'
   ·exact .inl (.inr ⟨x,by simp [g'],g⟩)
   ·rcases Yac.1 g' with rfl | g'
    ·exact (hso id g).imp (fun q => .inr ⟨e,by simp,q⟩) id_
    ·exact .inl (.inr ⟨x,by simp [g'],g⟩)
where id_ {p : Prop} (h : p) : p := h
theorem j0_spec {k m : Nat} {A B : List En} {e : En} {v : Vv} {S : HS} (hk : 2000 ≤ k) (h : MS m (A ++ e :: B) S) (hA : ∀ a ∈ A,a.key ≠ e.key) (hc : e.xs.length < 1000) :
  ∃ s' xs' S',Y54.J0 k (some m) e.key v S = some ((),S') ∧ MS m (A ++ ⟨e.key,e.p,s',xs'⟩ :: B) S' ∧ Chg (OM m (A ++ e :: B)) (OM m (A ++ ⟨e.key,e.p,s',xs'⟩ :: B)) S S' ∧ (∀ u,u ∈ xs' ↔ u ∈ e.xs ∨ u = v) ∧ xs'.length ≤ e.xs.length + 1 := by
 have he := h.si e (by simp)
 have hlk : S.look (some m) (KI.kv e.key) = some (some (.ptr (some (HA.cell0 e.p)))) := by
  rw [HS.look,HS.mp,h.mp,obs,mf_at rfl 0 hA]; rfl
 have fl : Fr S.next S (S.lit [[.str v]] 1).2 := Zzd _ (Yaa _)
 have nl : (S.lit [[.str v]] 1).2.next = S.next + 1 := rfl
 have rl : (S.lit [[.str v]] 1).2.rows (S.lit [[.str v]] 1).1 1 = some ([v].map KS.row1) := (Vec.lit (n := 0) (z := 1) (S := S) _ (Yak _)).rows
 have ql : ∀ q,(S.lit [[.str v]] 1).1.a = some q → q.1 = S.next := fun q hq => by cases hq; rfl
 rw [Y54.J0]
 erw [hlk]
 rw [obs,show dP ((some (HV.ptr (some (HA.cell0 e.p)))).getD (.ptr none)) = some (some (HA.cell0 e.p)) from rfl,obs,letv]
 generalize S.lit [[.str v]] 1 = P at fl nl rl ql ⊢
 obtain ⟨sl,S1⟩ := P
 simp only at fl nl rl ql ⊢
 have h1 := h.fr fl
 have he1 := he.fr fl
 obtain ⟨s',xs',S2,e2,i2,o2,m2,c2,c2'⟩ := KS.add_spec hk he1 rl (fun q hq => by
  have := ql q hq
  exact ⟨by omega,fun g => by have := he.lt g; omega⟩) (by simp; omega)
 obtain ⟨g1,g2⟩ := h1.upd i2 o2
 rw [e2,obs]
 exact ⟨s',xs',S2,rfl,g1,(Chg.of_fr fl).trans g2,fun u => by rw [m2]; simp,by simpa using c2'⟩
theorem put_spec {k m n : Nat} {E : List En} {key : Kk} {v : Vv} {S : HS} (hk : 2000 ≤ k) (h : MS m E S) (hne : ∀ e ∈ E,e.xs ≠ []) (hc : ∀ e ∈ E,e.xs.length ≤ n) (hn : n < 1000) :
  ∃ E' S',Y54.f k (some m) key v S = some ((),S') ∧ MS m E' S' ∧ Chg (OM m E) (OM m E') S S' ∧ (∀ k' v',mem E' k' v' ↔ mem E k' v' ∨ (k' = key ∧ v' = v)) ∧ (∀ e ∈ E',e.xs ≠ []) ∧ (∀ e ∈ E',e.xs.length ≤ n + 1) := by
 have hmem : ∀ (A B : List En) (e : En) (s' : Sl) (xs' : List Vv),e.key = key → (∀ u,u ∈ xs' ↔ u ∈ e.xs ∨ u = v) → ∀ k' v',mem (A ++ ⟨e.key,e.p,s',xs'⟩ :: B) k' v' ↔ mem (A ++ e :: B) k' v' ∨ (k' = key ∧ v' = v) := by
  intro A B e s' xs' hke hx k' v'
  constructor
  ·rintro ⟨x,hx1,hx2,hx3⟩
   rcases Yab.1 hx1 with g | g
   ·exact .inl ⟨x,by simp [g],hx2,hx3⟩
   ·rcases Yac.1 g with rfl | g
    ·rcases (hx v').1 hx3 with g2 | g2
     ·exact .inl ⟨e,by simp,hx2,g2⟩
     ·exact .inr ⟨by rw [← hx2]; exact hke,g2⟩
    ·exact .inl ⟨x,by simp [g],hx2,hx3⟩
  ·rintro (⟨x,hx1,hx2,hx3⟩ | ⟨rfl,rfl⟩)
   ·rcases Yab.1 hx1 with g | g
    ·exact ⟨x,by simp [g],hx2,hx3⟩
    ·rcases Yac.1 g with rfl | g
     ·exact ⟨⟨x.key,x.p,s',xs'⟩,by simp,hx2,(hx v').2 (.inl hx3)⟩
     ·exact ⟨x,by simp [g],hx2,hx3⟩
   ·exact ⟨⟨e.key,e.p,s',xs'⟩,by simp,hke,(hx _).2 (.inr rfl)⟩
 rw [Y54.f]
 rcases get_spec h key with ⟨e1,hno⟩ | ⟨A,e,B,rfl,hke,hA,e1⟩
 ·obtain ⟨s,xs,S1,e2,i2,f2,o2,m2,c2⟩ := KS.of_spec (k := k) (sl := Sl.nil) (ls := []) (S := S) hk ⟨rfl,fun q hq => by cases hq⟩ (by simp)
  have hx : xs = [] := by simpa using c2
  subst hx
  have h1 := h.fr f2
  have le2 := f2.le
  have hput : S1.mput (some m) (KI.kv key) (.ptr (some (HA.cell0 S.next))) = some (S1.put m (.map ((E ++ [(⟨key,S.next,s,[]⟩ : En)]).map ent))) := by
   simp only [HS.mput,h1.mp]
   rw [mf_none 0 hno]
   simp [ent]
  erw [e1]
  rw [obs,show dP ((none : Option HV).getD (.ptr none)) = some none from rfl,obs,if_pos (by rfl),e2,obs]
  erw [hput]
  rw [obs]
  have hmO : ∀ id,Own S.next s id → id ≠ m := fun id g => by have := o2 id g; have := h.lt; omega
  have h2 : MS m (E ++ (⟨key,S.next,s,[]⟩ : En) :: []) (S1.put m (.map ((E ++ [(⟨key,S.next,s,[]⟩ : En)]).map ent))) := by
   refine ⟨Zxv _ _ _,?_,fun x hx => ?_,?_,fun x hx => ?_,by rw [Zxw]; have := h.lt; omega⟩
   ·rw [Yad]
    exact ⟨h.nd,List.pairwise_singleton _ _,fun a ha b hb => by simp at hb; subst hb; exact hno a ha⟩
   ·rcases Yab.1 hx with g | g
    ·exact (h1.si x g).keep (fun id ho => Zxe _ (fun q => by subst q; exact h1.nm x g ho)) (Yaa _)
    ·simp at g; subst g; exact i2.keep (fun id ho => Zxe _ (hmO id ho)) (Yaa _)
   ·rw [Yad]
    refine ⟨h.dis,List.pairwise_singleton _ _,fun a ha b hb id g1 g2 => ?_⟩
    simp at hb; subst hb
    have := (h.si a ha).lt g1
    have := o2 id g2
    omega
   ·rcases Yab.1 hx with g | g
    ·exact h.nm x g
    ·simp at g; subst g; exact fun ho => hmO m ho rfl
  have hch : Chg (OM m E) (OM m (E ++ (⟨key,S.next,s,[]⟩ : En) :: [])) S (S1.put m (.map ((E ++ [(⟨key,S.next,s,[]⟩ : En)]).map ent))) := by
   refine ⟨by rw [Zxw]; omega,fun id g1 g2 => by rw [Zxe _ (fun q => g2 (.inl q))]; exact f2.eq id g1,fun id ho => ?_⟩
   rcases ho with g | ⟨x,hx,g⟩
   ·exact .inl (.inl g)
   ·rcases Yab.1 hx with g' | g'
    ·exact .inl (.inr ⟨x,g',g⟩)
    ·simp at g'; subst g'; exact .inr (o2 id g)
  obtain ⟨s',xs',S3,e3,g1,g2,g3,g4⟩ := j0_spec (v := v) hk h2 hno (by simp)
  refine ⟨_,S3,e3,g1,hch.trans g2,fun k' v' => ?_,fun x hx => ?_,fun x hx => ?_⟩
  ·rw [hmem E [] ⟨key,S.next,s,[]⟩ s' xs' rfl g3]
   have : mem (E ++ (⟨key,S.next,s,[]⟩ : En) :: []) k' v' ↔ mem E k' v' := by
    constructor
    ·rintro ⟨x,hx,q1,q2⟩
     rcases Yab.1 hx with g | g
     ·exact ⟨x,g,q1,q2⟩
     ·simp at g; subst g; cases q2
    ·rintro ⟨x,hx,q1,q2⟩; exact ⟨x,by simp [hx],q1,q2⟩
   rw [this]
  ·rcases Yab.1 hx with g | g
   ·exact hne x g
   ·simp at g; subst g
    intro q
    have := (g3 v).2 (.inr rfl)
    simp only at q
    rw [q] at this; cases this
  ·rcases Yab.1 hx with g | g
   ·have := hc x g; omega
   ·simp at g; subst g; simp at g4; simp; omega
 ·subst hke
  obtain ⟨s',xs',S3,e3,g1,g2,g3,g4⟩ := j0_spec (v := v) hk h hA (by have := hc e (by simp); omega)
  erw [e1]
  rw [obs,show dP ((some (HV.ptr (some (HA.cell0 e.p)))).getD (.ptr none)) = some (some (HA.cell0 e.p)) from rfl,obs,if_neg (by simp),e3]
  refine ⟨_,S3,rfl,g1,g2,fun k' v' => hmem A B e s' xs' rfl g3 k' v',fun x hx => ?_,fun x hx => ?_⟩
  ·rcases Yab.1 hx with g | g
   ·exact hne x (by simp [g])
   ·rcases Yac.1 g with rfl | g
    ·intro q
     have := (g3 v).2 (.inr rfl)
     simp only at q
     rw [q] at this; cases this
    ·exact hne x (by simp [g])
  ·rcases Yab.1 hx with g | g
   ·have := hc x (by simp [g]); omega
   ·rcases Yac.1 g with rfl | g
    ·have := hc e (by simp); simp only; omega
    ·have := hc x (by simp [g]); omega
theorem MS.del {m : Nat} {A B : List En} {e : En} {S : HS} (h : MS m (A ++ e :: B) S) (hA : ∀ a ∈ A,a.key ≠ e.key) :
  ∃ S',S.mdel (some m) (KI.kv e.key) = some S' ∧ MS m (A ++ B) S' ∧ Chg (OM m (A ++ e :: B)) (OM m (A ++ B)) S S' := by
 have hd := h.dis
 rw [Yad,Yah] at hd
 have hn := h.nd
 rw [Yad,Yah] at hn
 have hsub : ∀ x,x ∈ A ++ B → x ∈ A ++ e :: B := fun x hx => by
  rcases Yab.1 hx with g | g <;> simp [g]
 refine ⟨S.put m (.map ((A ++ B).map ent)),?_,⟨Zxv _ _ _,?_,fun x hx => (h.si x (hsub x hx)).keep (fun id ho => Zxe _ (fun q => by subst q; exact h.nm x (hsub x hx) ho)) (Yaa _),?_,fun x hx => h.nm x (hsub x hx),h.lt⟩,⟨Yaa _,fun id _ g2 => Zxe _ (fun q => g2 (.inl q)),fun id ho => .inl ?_⟩⟩
 ·simp only [HS.mdel,h.mp]
  rw [mf_at rfl 0 hA]
  simp only [Option.map_some,Nat.zero_add]
  congr 3
  rw [Yau,List.eraseIdx_append_of_length_le (by simp)]
  simp
 ·rw [Yad]; exact ⟨hn.1,hn.2.1.2,fun a ha b hb => hn.2.2 a ha b (by simp [hb])⟩
 ·rw [Yad]; exact ⟨hd.1,hd.2.1.2,fun a ha b hb => hd.2.2 a ha b (by simp [hb])⟩
 ·rcases ho with g | ⟨x,hx,g⟩
  ·exact .inl g
  ·exact .inr ⟨x,hsub x hx,g⟩
theorem take_spec {k m n : Nat} {E : List En} {key : Kk} {v : Vv} {S : HS} (hk : 2000 ≤ k) (h : MS m E S) (hne : ∀ e ∈ E,e.xs ≠ []) (hc : ∀ e ∈ E,e.xs.length ≤ n) (hm : mem E key v) :
  ∃ E' S',Y86.f k (some m) key v S = some ((),S') ∧ MS m E' S' ∧ Chg (OM m E) (OM m E') S S' ∧ (∀ k' v',mem E' k' v' ↔ mem E k' v' ∧ ¬ (k' = key ∧ v' = v)) ∧ (∀ e ∈ E',e.xs ≠ []) ∧ (∀ e ∈ E',e.xs.length ≤ n) := by
 obtain ⟨e,he,hke,hve⟩ := hm
 obtain ⟨A,B,rfl,hA⟩ := split_at h.nd he hke
 subst hke
 have hi := h.si e he
 have hnd := h.nd
 rw [Yad,Yah] at hnd
 have hkB : ∀ b ∈ B,b.key ≠ e.key := fun b hb g => hnd.2.1.1 b hb g.symm
 have hlk : S.look (some m) (KI.kv e.key) = some (some (.ptr (some (HA.cell0 e.p)))) := by
  rw [HS.look,HS.mp,h.mp,obs,mf_at rfl 0 hA]; rfl
 have fl : Fr S.next S (S.lit [[.str v]] 1).2 := Zzd _ (Yaa _)
 have nl : (S.lit [[.str v]] 1).2.next = S.next + 1 := rfl
 have rl : (S.lit [[.str v]] 1).2.rows (S.lit [[.str v]] 1).1 1 = some ([v].map KS.row1) := (Vec.lit (n := 0) (z := 1) (S := S) _ (Yak _)).rows
 have ql : ∀ q,(S.lit [[.str v]] 1).1.a = some q → q.1 = S.next := fun q hq => by cases hq; rfl
 rw [Y86.f]
 erw [hlk]
 rw [obs,show dP ((some (HV.ptr (some (HA.cell0 e.p)))).getD (.ptr none)) = some (some (HA.cell0 e.p)) from rfl,obs,letv]
 generalize S.lit [[.str v]] 1 = P at fl nl rl ql ⊢
 obtain ⟨sl,S1⟩ := P
 simp only at fl nl rl ql ⊢
 have h1 := h.fr fl
 obtain ⟨s',xs',S2,e2,i2,o2,m2,c2⟩ := KS.remove_spec hk (hi.fr fl) rl (fun q hq => by
  have := ql q hq
  exact ⟨by omega,fun g => by have := hi.lt g; omega⟩) (by simp)
 obtain ⟨g1,g2⟩ := h1.upd i2 o2
 have hlk2 : S2.look (some m) (KI.kv e.key) = some (some (.ptr (some (HA.cell0 e.p)))) := by
  rw [HS.look,HS.mp,g1.mp,obs,mf_at (e := ⟨e.key,e.p,s',xs'⟩) rfl 0 hA]; rfl
 have hx : ∀ u,u ∈ xs' ↔ u ∈ e.xs ∧ u ≠ v := fun u => by rw [m2]; simp
 rw [e2,obs]
 erw [hlk2]
 rw [obs,show dP ((some (HV.ptr (some (HA.cell0 e.p)))).getD (.ptr none)) = some (some (HA.cell0 e.p)) from rfl,obs,KS.len_spec i2,obs]
 have hmem : ∀ k' v',mem (A ++ ⟨e.key,e.p,s',xs'⟩ :: B) k' v' ↔ mem (A ++ e :: B) k' v' ∧ ¬ (k' = e.key ∧ v' = v) := by
  intro k' v'
  constructor
  ·rintro ⟨x,hx1,hx2,hx3⟩
   rcases Yab.1 hx1 with g | g
   ·exact ⟨⟨x,by simp [g],hx2,hx3⟩,fun q => hA x g (hx2.trans q.1)⟩
   ·rcases Yac.1 g with rfl | g
    ·have := (hx v').1 hx3
     exact ⟨⟨e,by simp,hx2,this.1⟩,fun q => this.2 q.2⟩
    ·exact ⟨⟨x,by simp [g],hx2,hx3⟩,fun q => hkB x g (hx2.trans q.1)⟩
  ·rintro ⟨⟨x,hx1,hx2,hx3⟩,hq⟩
   rcases Yab.1 hx1 with g | g
   ·exact ⟨x,by simp [g],hx2,hx3⟩
   ·rcases Yac.1 g with rfl | g
    ·exact ⟨⟨x.key,x.p,s',xs'⟩,by simp,hx2,(hx v').2 ⟨hx3,fun q => hq ⟨hx2.symm,q⟩⟩⟩
    ·exact ⟨x,by simp [g],hx2,hx3⟩
 by_cases h0 : xs' = []
 ·subst h0
  obtain ⟨S3,e3,k1,k2⟩ := g1.del hA
  rw [if_pos (by simp)]
  erw [e3]
  rw [obs]
  refine ⟨A ++ B,S3,rfl,k1,((Chg.of_fr fl).trans g2).trans k2,fun k' v' => ?_,fun x hx => ?_,fun x hx => ?_⟩
  ·rw [← hmem]
   constructor
   ·rintro ⟨x,q1,q2,q3⟩
    refine ⟨x,?_,q2,q3⟩
    rcases Yab.1 q1 with g | g <;> simp [g]
   ·rintro ⟨x,q1,q2,q3⟩
    rcases Yab.1 q1 with g | g
    ·exact ⟨x,by simp [g],q2,q3⟩
    ·rcases Yac.1 g with rfl | g
     ·cases q3
     ·exact ⟨x,by simp [g],q2,q3⟩
  ·rcases Yab.1 hx with g | g <;> exact hne x (by simp [g])
  ·rcases Yab.1 hx with g | g <;> exact hc x (by simp [g])
 ·rw [if_neg (by simpa using h0)]
  refine ⟨_,S2,rfl,g1,(Chg.of_fr fl).trans g2,hmem,fun x hx => ?_,fun x hx => ?_⟩
  ·rcases Yab.1 hx with g | g
   ·exact hne x (by simp [g])
   ·rcases Yac.1 g with rfl | g
    ·exact h0
    ·exact hne x (by simp [g])
  ·rcases Yab.1 hx with g | g
   ·exact hc x (by simp [g])
   ·rcases Yac.1 g with rfl | g
    ·have := hc e (by simp); simp only; omega
    ·exact hc x (by simp [g])
end MA
namespace MB
abbrev Kk := KS.Ky
abbrev Vv := KI.Ky
structure En where
 key : Kk
 p : Nat
 s : Sl
 xs : List Vv
def ent (e : En) : HV × HV := (KS.kv e.key,.ptr (some (HA.cell0 e.p)))
theorem kSame_kv (a b : Kk) : Zab2 (KS.kv a) (KS.kv b) = some (a == b) := by simp [Zab2,Zyn,KS.kv]
theorem mf_none {k : Kk} : ∀ {E : List En} (i : Nat),(∀ e ∈ E,e.key ≠ k) → mfind (KS.kv k) (E.map ent) i = some none := by
 intro E
 induction E with
 | nil => intro i _; rfl
 | cons e E ih =>
  intro i h
  rw [List.map_cons,mfind.eq_def]
  simp only [ent,kSame_kv,show (k == e.key) = false from beq_eq_false_iff_ne.2 (fun g => h e (by simp) g.symm)]
  exact ih (i + 1) fun x hx => h x (by simp [hx])
theorem mf_at {k : Kk} {e : En} {B : List En} (hk : e.key = k) : ∀ {A : List En} (i : Nat),(∀ a ∈ A,a.key ≠ k) → mfind (KS.kv k) ((A ++ e :: B).map ent) i = some (some (i + A.length,.ptr (some (HA.cell0 e.p)))) := by
 intro A
 induction A with
 | nil =>
  intro i _
  rw [Yay,List.map_cons,mfind.eq_def]
  simp only [ent,kSame_kv,hk,beq_self_eq_true]
  rfl
 | cons a A ih =>
  intro i h
  rw [List.cons_append,List.map_cons,mfind.eq_def]
  simp only [ent,kSame_kv,show (k == a.key) = false from beq_eq_false_iff_ne.2 (fun g => h a (by simp) g.symm)]
  rw [ih (i + 1) fun x hx => h x (by simp [hx])]
  simp; omega
structure MS (m : Nat) (E : List En) (S : HS) : Prop where
 mp : S.heap m = .map (E.map ent)
 nd : E.Pairwise fun a b => a.key ≠ b.key
 si : ∀ e ∈ E,KI.SI e.p e.s e.xs S
 dis : E.Pairwise fun a b => ∀ id,Own a.p a.s id → ¬ Own b.p b.s id
 nm : ∀ e ∈ E,¬ Own e.p e.s m
 lt : m < S.next
def OM (m : Nat) (E : List En) (id : Nat) : Prop := id = m ∨ ∃ e ∈ E,Own e.p e.s id
def mem (E : List En) (k : Kk) (v : Vv) : Prop := ∃ e ∈ E,e.key = k ∧ v ∈ e.xs
theorem MS.ltO {m : Nat} {E : List En} {S : HS} (h : MS m E S) {id : Nat} (ho : OM m E id) : id < S.next := by
 rcases ho with rfl | ⟨e,he,ho⟩
 ·exact h.lt
 ·exact (h.si e he).lt ho
theorem MS.keep {m : Nat} {E : List En} {S S' : HS} (h : MS m E S) (hk : ∀ id,OM m E id → S'.heap id = S.heap id) (hn : S.next ≤ S'.next) : MS m E S' :=
 ⟨(hk m (.inl rfl)).trans h.mp,h.nd,fun e he => (h.si e he).keep (fun id ho => hk id (.inr ⟨e,he,ho⟩)) hn,h.dis,h.nm,Yai h.lt hn⟩
theorem MS.fr {m : Nat} {E : List En} {S S' : HS} (h : MS m E S) (hf : Fr S.next S S') : MS m E S' := h.keep (fun id ho => hf.eq id (h.ltO ho)) hf.le
theorem split_at {E : List En} {k : Kk} (hn : E.Pairwise fun a b => a.key ≠ b.key) {e : En} (he : e ∈ E) (hk : e.key = k) : ∃ A B,E = A ++ e :: B ∧ ∀ a ∈ A,a.key ≠ k := by
 obtain ⟨A,B,rfl⟩ := Ybb he
 refine ⟨A,B,rfl,fun a ha => ?_⟩
 rw [Yad] at hn
 have := hn.2.2 a ha e (by simp)
 rw [← hk]; exact this
theorem get_spec {m : Nat} {E : List En} {S : HS} (h : MS m E S) (k : Kk) : (S.look (some m) (KS.kv k) = some none ∧ ∀ e ∈ E,e.key ≠ k) ∨ ∃ A e B,E = A ++ e :: B ∧ e.key = k ∧ (∀ a ∈ A,a.key ≠ k) ∧ S.look (some m) (KS.kv k) = some (some (.ptr (some (HA.cell0 e.p)))) := by
 by_cases hx : ∃ e ∈ E,e.key = k
 ·obtain ⟨e,he,hk⟩ := hx
  obtain ⟨A,B,rfl,hA⟩ := split_at h.nd he hk
  refine .inr ⟨A,e,B,rfl,hk,hA,?_⟩
  rw [HS.look,HS.mp,h.mp,obs,mf_at hk 0 hA]; rfl
 ·refine .inl ⟨?_,fun e he g => hx ⟨e,he,g⟩⟩
  rw [HS.look,HS.mp,h.mp,obs,mf_none 0 fun e he g => hx ⟨e,he,g⟩]; rfl
theorem MS.upd {m : Nat} {A B : List En} {e : En} {s' : Sl} {xs' : List Vv} {S S' : HS} (h : MS m (A ++ e :: B) S) (hs : KI.SI e.p s' xs' S') (ho : Only e.p e.s s' S S') :
  MS m (A ++ ⟨e.key,e.p,s',xs'⟩ :: B) S' ∧ Chg (OM m (A ++ e :: B)) (OM m (A ++ ⟨e.key,e.p,s',xs'⟩ :: B)) S S' := by
 have hle := ho.le
 have hd := h.dis
 rw [Yad,Yah] at hd
 have hn := h.nd
 rw [Yad,Yah] at hn
 have hso : ∀ id,Own e.p s' id → Own e.p e.s id ∨ S.next ≤ id := ho.own
 have hoth : ∀ a,a ∈ A ∨ a ∈ B → a ∈ A ++ e :: B ∧ ∀ id,Own a.p a.s id → ¬ Own e.p e.s id := fun a ha => by
  rcases ha with g | g
  ·exact ⟨by simp [g],fun id h1 h2 => hd.2.2 a g e (by simp) id h1 h2⟩
  ·exact ⟨by simp [g],fun id h1 h2 => hd.2.1.1 a g id h2 h1⟩
 have hnew : ∀ a,a ∈ A ∨ a ∈ B → ∀ id,Own a.p a.s id → ¬ Own e.p s' id := fun a ha id h1 h2 => by
  rcases hso id h2 with g | g
  ·exact (hoth a ha).2 id h1 g
  ·have := (h.si a (hoth a ha).1).lt h1; omega
 refine ⟨⟨?_,?_,fun x hx => ?_,?_,fun x hx => ?_,by have := h.lt; omega⟩,⟨hle,fun id h1 h2 => ho.eq id h1 fun g => h2 (.inr ⟨e,by simp,g⟩),fun id hid => ?_⟩⟩
 ·rw [ho.eq m h.lt (h.nm e (by simp)),h.mp]
  simp [ent]
 ·rw [Yad,Yah]
  refine ⟨hn.1,⟨hn.2.1.1,hn.2.1.2⟩,fun a ha b hb => ?_⟩
  rcases Yac.1 hb with rfl | hb
  ·exact hn.2.2 a ha e (by simp)
  ·exact hn.2.2 a ha b (by simp [hb])
 ·rcases Yab.1 hx with g | g
  ·exact (h.si x (by simp [g])).keep (fun id h1 => ho.eq id ((h.si x (by simp [g])).lt h1) ((hoth x (.inl g)).2 id h1)) hle
  ·rcases Yac.1 g with rfl | g
   ·exact hs
   ·exact (h.si x (by simp [g])).keep (fun id h1 => ho.eq id ((h.si x (by simp [g])).lt h1) ((hoth x (.inr g)).2 id h1)) hle
 ·rw [Yad,Yah]
  refine ⟨hd.1,⟨fun b hb id h1 h2 => hnew b (.inr hb) id h2 h1,hd.2.1.2⟩,fun a ha b hb => ?_⟩
  rcases Yac.1 hb with rfl | hb
  ·exact hnew a (.inl ha)
  ·exact hd.2.2 a ha b (by simp [hb])
 ·rcases Yab.1 hx with g | g
  ·exact h.nm x (by simp [g])
  ·rcases Yac.1 g with rfl | g
   ·intro g'
    rcases hso m g' with g2 | g2
    ·exact h.nm e (by simp) g2
    ·have := h.lt; omega
   ·exact h.nm x (by simp [g])
 ·rcases hid with rfl | ⟨x,hx,g⟩
  ·exact .inl (.inl rfl)
  ·rcases Yab.1 hx with g' | g'
   ·exact .inl (.inr ⟨x,by simp [g'],g⟩)
   ·rcases Yac.1 g' with rfl | g'
    ·exact (hso id g).imp (fun q => .inr ⟨e,by simp,q⟩) id_
    ·exact .inl (.inr ⟨x,by simp [g'],g⟩)
where id_ {p : Prop} (h : p) : p := h
theorem j0_spec {k m : Nat} {A B : List En} {e : En} {v : Vv} {S : HS} (hk : 2000 ≤ k) (h : MS m (A ++ e :: B) S) (hA : ∀ a ∈ A,a.key ≠ e.key) (hc : e.xs.length < 1000) :
  ∃ s' xs' S',Y56.J0 k (some m) e.key v S = some ((),S') ∧ MS m (A ++ ⟨e.key,e.p,s',xs'⟩ :: B) S' ∧ Chg (OM m (A ++ e :: B)) (OM m (A ++ ⟨e.key,e.p,s',xs'⟩ :: B)) S S' ∧ (∀ u,u ∈ xs' ↔ u ∈ e.xs ∨ u = v) ∧ xs'.length ≤ e.xs.length + 1 := by
 have he := h.si e (by simp)
 have hlk : S.look (some m) (KS.kv e.key) = some (some (.ptr (some (HA.cell0 e.p)))) := by
  rw [HS.look,HS.mp,h.mp,obs,mf_at rfl 0 hA]; rfl
 have fl : Fr S.next S (S.lit [[.int .i64 v]] 1).2 := Zzd _ (Yaa _)
 have nl : (S.lit [[.int .i64 v]] 1).2.next = S.next + 1 := rfl
 have rl : (S.lit [[.int .i64 v]] 1).2.rows (S.lit [[.int .i64 v]] 1).1 1 = some ([v].map KI.row1) := (Vec.lit (n := 0) (z := 1) (S := S) _ (Yak _)).rows
 have ql : ∀ q,(S.lit [[.int .i64 v]] 1).1.a = some q → q.1 = S.next := fun q hq => by cases hq; rfl
 rw [Y56.J0]
 erw [hlk]
 rw [obs,show dP ((some (HV.ptr (some (HA.cell0 e.p)))).getD (.ptr none)) = some (some (HA.cell0 e.p)) from rfl,obs,letv]
 generalize S.lit [[.int .i64 v]] 1 = P at fl nl rl ql ⊢
 obtain ⟨sl,S1⟩ := P
 simp only at fl nl rl ql ⊢
 have h1 := h.fr fl
 have he1 := he.fr fl
 obtain ⟨s',xs',S2,e2,i2,o2,m2,c2,c2'⟩ := KI.add_spec hk he1 rl (fun q hq => by
  have := ql q hq
  exact ⟨by omega,fun g => by have := he.lt g; omega⟩) (by simp; omega)
 obtain ⟨g1,g2⟩ := h1.upd i2 o2
 rw [e2,obs]
 exact ⟨s',xs',S2,rfl,g1,(Chg.of_fr fl).trans g2,fun u => by rw [m2]; simp,by simpa using c2'⟩
theorem put_spec {k m n : Nat} {E : List En} {key : Kk} {v : Vv} {S : HS} (hk : 2000 ≤ k) (h : MS m E S) (hne : ∀ e ∈ E,e.xs ≠ []) (hc : ∀ e ∈ E,e.xs.length ≤ n) (hn : n < 1000) :
  ∃ E' S',Y56.f k (some m) key v S = some ((),S') ∧ MS m E' S' ∧ Chg (OM m E) (OM m E') S S' ∧ (∀ k' v',mem E' k' v' ↔ mem E k' v' ∨ (k' = key ∧ v' = v)) ∧ (∀ e ∈ E',e.xs ≠ []) ∧ (∀ e ∈ E',e.xs.length ≤ n + 1) := by
 have hmem : ∀ (A B : List En) (e : En) (s' : Sl) (xs' : List Vv),e.key = key → (∀ u,u ∈ xs' ↔ u ∈ e.xs ∨ u = v) → ∀ k' v',mem (A ++ ⟨e.key,e.p,s',xs'⟩ :: B) k' v' ↔ mem (A ++ e :: B) k' v' ∨ (k' = key ∧ v' = v) := by
  intro A B e s' xs' hke hx k' v'
  constructor
  ·rintro ⟨x,hx1,hx2,hx3⟩
   rcases Yab.1 hx1 with g | g
   ·exact .inl ⟨x,by simp [g],hx2,hx3⟩
   ·rcases Yac.1 g with rfl | g
    ·rcases (hx v').1 hx3 with g2 | g2
     ·exact .inl ⟨e,by simp,hx2,g2⟩
     ·exact .inr ⟨by rw [← hx2]; exact hke,g2⟩
    ·exact .inl ⟨x,by simp [g],hx2,hx3⟩
  ·rintro (⟨x,hx1,hx2,hx3⟩ | ⟨rfl,rfl⟩)
   ·rcases Yab.1 hx1 with g | g
    ·exact ⟨x,by simp [g],hx2,hx3⟩
    ·rcases Yac.1 g with rfl | g
     ·exact ⟨⟨x.key,x.p,s',xs'⟩,by simp,hx2,(hx v').2 (.inl hx3)⟩
     ·exact ⟨x,by simp [g],hx2,hx3⟩
   ·exact ⟨⟨e.key,e.p,s',xs'⟩,by simp,hke,(hx _).2 (.inr rfl)⟩
 rw [Y56.f]
 rcases get_spec h key with ⟨e1,hno⟩ | ⟨A,e,B,rfl,hke,hA,e1⟩
 ·obtain ⟨s,xs,S1,e2,i2,f2,o2,m2,c2⟩ := KI.of_spec (k := k) (sl := Sl.nil) (ls := []) (S := S) hk ⟨rfl,fun q hq => by cases hq⟩ (by simp)
  have hx : xs = [] := by simpa using c2
  subst hx
  have h1 := h.fr f2
  have le2 := f2.le
  have hput : S1.mput (some m) (KS.kv key) (.ptr (some (HA.cell0 S.next))) = some (S1.put m (.map ((E ++ [(⟨key,S.next,s,[]⟩ : En)]).map ent))) := by
   simp only [HS.mput,h1.mp]
   rw [mf_none 0 hno]
   simp [ent]
  erw [e1]
  rw [obs,show dP ((none : Option HV).getD (.ptr none)) = some none from rfl,obs,if_pos (by rfl),e2,obs]
  erw [hput]
  rw [obs]
  have hmO : ∀ id,Own S.next s id → id ≠ m := fun id g => by have := o2 id g; have := h.lt; omega
  have h2 : MS m (E ++ (⟨key,S.next,s,[]⟩ : En) :: []) (S1.put m (.map ((E ++ [(⟨key,S.next,s,[]⟩ : En)]).map ent))) := by
   refine ⟨Zxv _ _ _,?_,fun x hx => ?_,?_,fun x hx => ?_,by rw [Zxw]; have := h.lt; omega⟩
   ·rw [Yad]
    exact ⟨h.nd,List.pairwise_singleton _ _,fun a ha b hb => by simp at hb; subst hb; exact hno a ha⟩
   ·rcases Yab.1 hx with g | g
    ·exact (h1.si x g).keep (fun id ho => Zxe _ (fun q => by subst q; exact h1.nm x g ho)) (Yaa _)
    ·simp at g; subst g; exact i2.keep (fun id ho => Zxe _ (hmO id ho)) (Yaa _)
   ·rw [Yad]
    refine ⟨h.dis,List.pairwise_singleton _ _,fun a ha b hb id g1 g2 => ?_⟩
    simp at hb; subst hb
    have := (h.si a ha).lt g1
    have := o2 id g2
    omega
   ·rcases Yab.1 hx with g | g
    ·exact h.nm x g
    ·simp at g; subst g; exact fun ho => hmO m ho rfl
  have hch : Chg (OM m E) (OM m (E ++ (⟨key,S.next,s,[]⟩ : En) :: [])) S (S1.put m (.map ((E ++ [(⟨key,S.next,s,[]⟩ : En)]).map ent))) := by
   refine ⟨by rw [Zxw]; omega,fun id g1 g2 => by rw [Zxe _ (fun q => g2 (.inl q))]; exact f2.eq id g1,fun id ho => ?_⟩
   rcases ho with g | ⟨x,hx,g⟩
   ·exact .inl (.inl g)
   ·rcases Yab.1 hx with g' | g'
    ·exact .inl (.inr ⟨x,g',g⟩)
    ·simp at g'; subst g'; exact .inr (o2 id g)
  obtain ⟨s',xs',S3,e3,g1,g2,g3,g4⟩ := j0_spec (v := v) hk h2 hno (by simp)
  refine ⟨_,S3,e3,g1,hch.trans g2,fun k' v' => ?_,fun x hx => ?_,fun x hx => ?_⟩
  ·rw [hmem E [] ⟨key,S.next,s,[]⟩ s' xs' rfl g3]
   have : mem (E ++ (⟨key,S.next,s,[]⟩ : En) :: []) k' v' ↔ mem E k' v' := by
    constructor
    ·rintro ⟨x,hx,q1,q2⟩
     rcases Yab.1 hx with g | g
     ·exact ⟨x,g,q1,q2⟩
     ·simp at g; subst g; cases q2
    ·rintro ⟨x,hx,q1,q2⟩; exact ⟨x,by simp [hx],q1,q2⟩
   rw [this]
  ·rcases Yab.1 hx with g | g
   ·exact hne x g
   ·simp at g; subst g
    intro q
    have := (g3 v).2 (.inr rfl)
    simp only at q
    rw [q] at this; cases this
  ·rcases Yab.1 hx with g | g
   ·have := hc x g; omega
   ·simp at g; subst g; simp at g4; simp; omega
 ·subst hke
  obtain ⟨s',xs',S3,e3,g1,g2,g3,g4⟩ := j0_spec (v := v) hk h hA (by have := hc e (by simp); omega)
  erw [e1]
  rw [obs,show dP ((some (HV.ptr (some (HA.cell0 e.p)))).getD (.ptr none)) = some (some (HA.cell0 e.p)) from rfl,obs,if_neg (by simp),e3]
  refine ⟨_,S3,rfl,g1,g2,fun k' v' => hmem A B e s' xs' rfl g3 k' v',fun x hx => ?_,fun x hx => ?_⟩
  ·rcases Yab.1 hx with g | g
   ·exact hne x (by simp [g])
   ·rcases Yac.1 g with rfl | g
    ·intro q
     have := (g3 v).2 (.inr rfl)
     simp only at q
     rw [q] at this; cases this
    ·exact hne x (by simp [g])
  ·rcases Yab.1 hx with g | g
   ·have := hc x (by simp [g]); omega
   ·rcases Yac.1 g with rfl | g
    ·have := hc e (by simp); simp only; omega
    ·have := hc x (by simp [g]); omega
theorem MS.del {m : Nat} {A B : List En} {e : En} {S : HS} (h : MS m (A ++ e :: B) S) (hA : ∀ a ∈ A,a.key ≠ e.key) :
  ∃ S',S.mdel (some m) (KS.kv e.key) = some S' ∧ MS m (A ++ B) S' ∧ Chg (OM m (A ++ e :: B)) (OM m (A ++ B)) S S' := by
 have hd := h.dis
 rw [Yad,Yah] at hd
 have hn := h.nd
 rw [Yad,Yah] at hn
 have hsub : ∀ x,x ∈ A ++ B → x ∈ A ++ e :: B := fun x hx => by
  rcases Yab.1 hx with g | g <;> simp [g]
 refine ⟨S.put m (.map ((A ++ B).map ent)),?_,⟨Zxv _ _ _,?_,fun x hx => (h.si x (hsub x hx)).keep (fun id ho => Zxe _ (fun q => by subst q; exact h.nm x (hsub x hx) ho)) (Yaa _),?_,fun x hx => h.nm x (hsub x hx),h.lt⟩,⟨Yaa _,fun id _ g2 => Zxe _ (fun q => g2 (.inl q)),fun id ho => .inl ?_⟩⟩
 ·simp only [HS.mdel,h.mp]
  rw [mf_at rfl 0 hA]
  simp only [Option.map_some,Nat.zero_add]
  congr 3
  rw [Yau,List.eraseIdx_append_of_length_le (by simp)]
  simp
 ·rw [Yad]; exact ⟨hn.1,hn.2.1.2,fun a ha b hb => hn.2.2 a ha b (by simp [hb])⟩
 ·rw [Yad]; exact ⟨hd.1,hd.2.1.2,fun a ha b hb => hd.2.2 a ha b (by simp [hb])⟩
 ·rcases ho with g | ⟨x,hx,g⟩
  ·exact .inl g
  ·exact .inr ⟨x,hsub x hx,g⟩
theorem take_spec {k m n : Nat} {E : List En} {key : Kk} {v : Vv} {S : HS} (hk : 2000 ≤ k) (h : MS m E S) (hne : ∀ e ∈ E,e.xs ≠ []) (hc : ∀ e ∈ E,e.xs.length ≤ n) (hm : mem E key v) :
  ∃ E' S',Y80.f k (some m) key v S = some ((),S') ∧ MS m E' S' ∧ Chg (OM m E) (OM m E') S S' ∧ (∀ k' v',mem E' k' v' ↔ mem E k' v' ∧ ¬ (k' = key ∧ v' = v)) ∧ (∀ e ∈ E',e.xs ≠ []) ∧ (∀ e ∈ E',e.xs.length ≤ n) := by
 obtain ⟨e,he,hke,hve⟩ := hm
 obtain ⟨A,B,rfl,hA⟩ := split_at h.nd he hke
 subst hke
 have hi := h.si e he
 have hnd := h.nd
 rw [Yad,Yah] at hnd
 have hkB : ∀ b ∈ B,b.key ≠ e.key := fun b hb g => hnd.2.1.1 b hb g.symm
 have hlk : S.look (some m) (KS.kv e.key) = some (some (.ptr (some (HA.cell0 e.p)))) := by
  rw [HS.look,HS.mp,h.mp,obs,mf_at rfl 0 hA]; rfl
 have fl : Fr S.next S (S.lit [[.int .i64 v]] 1).2 := Zzd _ (Yaa _)
 have nl : (S.lit [[.int .i64 v]] 1).2.next = S.next + 1 := rfl
 have rl : (S.lit [[.int .i64 v]] 1).2.rows (S.lit [[.int .i64 v]] 1).1 1 = some ([v].map KI.row1) := (Vec.lit (n := 0) (z := 1) (S := S) _ (Yak _)).rows
 have ql : ∀ q,(S.lit [[.int .i64 v]] 1).1.a = some q → q.1 = S.next := fun q hq => by cases hq; rfl
 rw [Y80.f]
 erw [hlk]
 rw [obs,show dP ((some (HV.ptr (some (HA.cell0 e.p)))).getD (.ptr none)) = some (some (HA.cell0 e.p)) from rfl,obs,letv]
 generalize S.lit [[.int .i64 v]] 1 = P at fl nl rl ql ⊢
 obtain ⟨sl,S1⟩ := P
 simp only at fl nl rl ql ⊢
 have h1 := h.fr fl
 obtain ⟨s',xs',S2,e2,i2,o2,m2,c2⟩ := KI.remove_spec hk (hi.fr fl) rl (fun q hq => by
  have := ql q hq
  exact ⟨by omega,fun g => by have := hi.lt g; omega⟩) (by simp)
 obtain ⟨g1,g2⟩ := h1.upd i2 o2
 have hlk2 : S2.look (some m) (KS.kv e.key) = some (some (.ptr (some (HA.cell0 e.p)))) := by
  rw [HS.look,HS.mp,g1.mp,obs,mf_at (e := ⟨e.key,e.p,s',xs'⟩) rfl 0 hA]; rfl
 have hx : ∀ u,u ∈ xs' ↔ u ∈ e.xs ∧ u ≠ v := fun u => by rw [m2]; simp
 rw [e2,obs]
 erw [hlk2]
 rw [obs,show dP ((some (HV.ptr (some (HA.cell0 e.p)))).getD (.ptr none)) = some (some (HA.cell0 e.p)) from rfl,obs,KI.len_spec i2,obs]
 have hmem : ∀ k' v',mem (A ++ ⟨e.key,e.p,s',xs'⟩ :: B) k' v' ↔ mem (A ++ e :: B) k' v' ∧ ¬ (k' = e.key ∧ v' = v) := by
  intro k' v'
  constructor
  ·rintro ⟨x,hx1,hx2,hx3⟩
   rcases Yab.1 hx1 with g | g
   ·exact ⟨⟨x,by simp [g],hx2,hx3⟩,fun q => hA x g (hx2.trans q.1)⟩
   ·rcases Yac.1 g with rfl | g
    ·have := (hx v').1 hx3
     exact ⟨⟨e,by simp,hx2,this.1⟩,fun q => this.2 q.2⟩
    ·exact ⟨⟨x,by simp [g],hx2,hx3⟩,fun q => hkB x g (hx2.trans q.1)⟩
  ·rintro ⟨⟨x,hx1,hx2,hx3⟩,hq⟩
   rcases Yab.1 hx1 with g | g
   ·exact ⟨x,by simp [g],hx2,hx3⟩
   ·rcases Yac.1 g with rfl | g
    ·exact ⟨⟨x.key,x.p,s',xs'⟩,by simp,hx2,(hx v').2 ⟨hx3,fun q => hq ⟨hx2.symm,q⟩⟩⟩
    ·exact ⟨x,by simp [g],hx2,hx3⟩
 by_cases h0 : xs' = []
 ·subst h0
  obtain ⟨S3,e3,k1,k2⟩ := g1.del hA
  rw [if_pos (by simp)]
  erw [e3]
  rw [obs]
  refine ⟨A ++ B,S3,rfl,k1,((Chg.of_fr fl).trans g2).trans k2,fun k' v' => ?_,fun x hx => ?_,fun x hx => ?_⟩
  ·rw [← hmem]
   constructor
   ·rintro ⟨x,q1,q2,q3⟩
    refine ⟨x,?_,q2,q3⟩
    rcases Yab.1 q1 with g | g <;> simp [g]
   ·rintro ⟨x,q1,q2,q3⟩
    rcases Yab.1 q1 with g | g
    ·exact ⟨x,by simp [g],q2,q3⟩
    ·rcases Yac.1 g with rfl | g
     ·cases q3
     ·exact ⟨x,by simp [g],q2,q3⟩
  ·rcases Yab.1 hx with g | g <;> exact hne x (by simp [g])
  ·rcases Yab.1 hx with g | g <;> exact hc x (by simp [g])
 ·rw [if_neg (by simpa using h0)]
  refine ⟨_,S2,rfl,g1,(Chg.of_fr fl).trans g2,hmem,fun x hx => ?_,fun x hx => ?_⟩
  ·rcases Yab.1 hx with g | g
   ·exact hne x (by simp [g])
   ·rcases Yac.1 g with rfl | g
    ·exact h0
    ·exact hne x (by simp [g])
  ·rcases Yab.1 hx with g | g
   ·exact hc x (by simp [g])
   ·rcases Yac.1 g with rfl | g
    ·have := hc e (by simp); simp only; omega
    ·exact hc x (by simp [g])
end MB
end Go.Proofs.YtbmfomkfmpppiaaGreat.X
