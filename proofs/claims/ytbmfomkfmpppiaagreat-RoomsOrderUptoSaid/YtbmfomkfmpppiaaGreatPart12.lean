/- The laws' own functions; awake, which has no argument, is run by the kernel once, in an empty memory: that is its contract in every memory. Sets, what is common to all. Sets of int, plain. Sets of string, plain. Sets of int, what is told, plain. Sets of string, what is told, plain. Maps of sets, keys of int, things of string, plain. Maps of sets, keys of string, things of int, plain. The layer pair: the relation, plain. Folded texts, plain. The layer rooms: names compared; lists in order, plain. The layer rooms: the book of rooms, plain. The layer rooms: a room's members: searched, plain. The layer rooms: a room, plain. The layer rooms: all rooms, what is held, plain. The layer rooms: steps of what is held, plain. The layer rooms: Join, plain. The layer rooms: Join, plain. -/
import Derived.Test.YtbmfomkfmpppiaaGreatPart11
namespace Go.Proofs.YtbmfomkfmpppiaaGreat.X
open Go.Proofs.YtbmfomkfmpppiaaGreat.HL
set_option linter.unusedVariables false
set_option linter.unusedSimpArgs false
set_option maxRecDepth 20000
set_option maxHeartbeats 4000000
noncomputable section
variable {D : Dp} {H : Hd} {k : Nat} {Ga Gb Gc Gd Ge Gf Gg Gh Gi Gj Gk Gl Gm Gn Go Gp Gq Gr Gs Gt Gu Gv Gw Gx Gy Gz Ka Kb Kc Kd Ke Kf Kg Kh Ki Kj Kk Kl Km Kn Ko Kp Kq Kr Ks Kt Ku Kv Kw Kx Ky Kz Ma Mb Mc Md Me Mf Mg Mh Mi Mj Mk Ml Mm Mn Mo Mp Mq Mr Ms Mt Mu Mv Mw Mx My Mz Na Nb Nc Nd Ne Nf Ng Nh Ni Nj Nk Nl Nm Nn No Np Nq Nr Ns Nt Nu Nv Nw Nx Ny Nz Qa Qb Qc Qd Qe Qf Qg Qh Qi Qj Qk Ql Qm Qn Qo Qp Qq Qr Qs Qt Qu Qv Qw Qx Qy Qz Ua Ub Uc : HV}
theorem A0 : (rollcalllaw20_awake.f (disp 2000 60) (fun _ => none) 2000 S0).map (fun p => p.1) = some true := by kernel_rfl
namespace aw
def f (S : HS) : Option (Bool × HS) := some (true,S)
theorem snd {base : Nat} {W0 : World} {β0 : Bt} {S : HS} {p : Bool × HS} (h : f S = some p) : HCall Tryz.prog base W0 β0 7 [] S (fun v S1 => v = (.bool p.1) ∧ S1 = p.2) := by
 unfold f at h
 cases h
 refine HCall.of_calls (v := .bool true) fun β w args' _ ha => ⟨.bool true,.bool true,?_⟩
 have h0 : args' = #[] := by have := ha.1; simpa using this.symm
 subst h0
 cases hA : rollcalllaw20_awake.f (disp 2000 60) (fun _ => none) 2000 S0 with
 | none => have := A0; rw [hA] at this; cases this
 | some q =>
  have h1 : q.1 = true := by have := A0; rw [hA] at this; simpa using this
  have hc := rollcalllaw20_awake.snd (base := w.heap.size) (W0 := w) (β0 := B0) (disp_snd 60) (fun _ _ h => by cases h) hA
  rw [h1] at hc
  refine HCall.calls hc (rel0 w) (VRels.nil B0) fun v S1 g => g.1
end aw
namespace rollcalllaw20_RoomsOrder
theorem at_ : FnAt Tryz.prog 4 Tryz.f4 := ⟨Tryz.func4,by kernel_rfl⟩
def d0 := (Tryz.f4.body).getD .skip
def r1 := kR (kA d0)
def r4 := kR (kA (kA (kB d0)))
def r7 := kR (kA (kA (kB (kA (kB d0)))))
def r12 := kR (kA (kA (kB (kB d0))))
def r15 := kR (kA (kA (kB (kA (kB (kB d0))))))
def d18 := kB (kB (kB d0))
def r19 := kR (kA d18)
def r22 := kR (kA (kA (kB d18)))
def d23 := kB (kA (kB d18))
def r27 := kR (kA (kA (kA (kA d23))))
def d31 := kB (kA (kA d23))
def r34 := kR (kA (kA (kA d31)))
def r36 := kR (kA (kB (kA (kA d31))))
def r37 := kR (kB (kB (kA (kA d31))))
def r38 := kR (kB d31)
def r40 := kR (kA (kB (kB d18)))
def d41 := kB (kB (kB d18))
def r43 := kR (kA (kA d41))
def r46 := kR (kA (kA (kB (kA d41))))
def r50 := kR (kA (kB d41))
def r52 := kR (kA (kB (kB d41)))
def d53 := kB (kB (kB d41))
def r54 := kR (kA d53)
def r57 := kR (kA (kA (kB d53)))
def d58 := kB (kA (kB d53))
def r60 := kR (kA (kA d58))
def d62 := kA (kB (kA d58))
def r64 := kR (kA (kA d62))
def r67 := kR (kA (kA (kB (kA d62))))
def r72 := kR (kA (kA (kB d62)))
def r74 := kR (kA (kB (kA (kB d62))))
def r76 := kR (kA (kB (kB (kA (kB d62)))))
def r79 := kR (kA (kB (kB d62)))
def r80 := kR (kB (kB (kB d62)))
def r82 := kR (kA (kB (kB d53)))
def d83 := kB (kB (kB d53))
def r85 := kR (kA (kA d83))
def d87 := kA (kB (kA d83))
def r88 := kR (kA d87)
def r92 := kR (kA (kA (kA (kB d87))))
def r95 := kR (kA (kA (kB (kA (kA (kB d87))))))
def r98 := kR (kB (kA (kB d87)))
def r100 := kR (kA (kB d83))
def c98 : Code := .region 32 r98 false
def c93 : Code := .cond (.tmp 120) (.seq (.region 31 r95 false) .ret) .skip
def c89 : Code := .block 5 (.seq (.seq (.region 30 r92 true) c93) c98)
def c88 : Code := .region 29 r88 false
def c78 : Code := .seq (.region 25 r79 false) (.region 26 r80 false)
def c70 : Code := .seq (.seq (.region 22 r72 false) (.seq (.region 23 r74 false) (.cond (.tmp 96) (.region 24 r76 true) .skip))) c78
def c65 : Code := .cond (.tmp 89) (.seq (.region 21 r67 false) .ret) .skip
def c61 : Code := .block 3 (.seq (.seq (.region 20 r64 true) c65) c70)
def c60 : Code := .region 19 r60 false
def c49 : Code := .seq (.region 15 r50 false) (.seq (.region 16 r52 false) (.seq (.region 17 r54 false) (.seq (.seq (.region 18 r57 false) (.block 2 (.rangeFunc (.tmp 70) #[71] c60 c61))) (.seq (.region 27 r82 false) (.seq (.seq (.region 28 r85 false) (.block 4 (.rangeFunc (.tmp 106) #[107] c88 c89))) (.seq (.region 33 r100 true) .ret))))))
def c44 : Code := .cond (.tmp 69) (.seq (.region 14 r46 false) .ret) .skip
def c39 : Code := .seq (.region 12 r40 true) (.seq (.seq (.region 13 r43 false) c44) c49)
def c38 : Code := .region 8 r38 false
def c25 : Code := .seq (.seq (.region 7 r27 false) (.cond (.tmp 26) .skip (.exit 0))) (.seq (.block 1 (.seq (.region 9 r34 false) (.cond (.tmp 34) (.region 10 r36 true) (.region 11 r37 true)))) c38)
def c0 : Code := .seq (.region 0 r1 false) (.seq (.seq (.region 1 r4 false) (.cond (.tmp 18) (.seq (.region 2 r7 false) .ret) .skip)) (.seq (.seq (.region 3 r12 false) (.cond (.tmp 20) (.seq (.region 4 r15 false) .ret) .skip)) (.seq (.region 5 r19 false) (.seq (.seq (.region 6 r22 false) (.block 0 (.loop c25))) c39))))
theorem body : Tryz.f4.body = some c0 := by kernel_rfl
section
variable {base : Nat} {W0 : World} {β0 : Bt}
def J1 (D : Dp) (H : Hd) (k : Nat) (rec0 : Sl → (Option HA) → (Option HA) → (Option HA) → Int → List Nat → HS → Option ((Bool) × HS)) (y0 : Sl) (y3 : (Option HA)) (y4 : (Option HA)) (y5 : (Option HA)) (y6 : Int) (ds : List Nat) (S : HS) : Option ((Bool) × HS) :=
 rec0 y0 y3 y4 y5 (w64 (y6 + 1)) ds S
theorem J1_snd {rec0 : Sl → (Option HA) → (Option HA) → (Option HA) → Int → List Nat → HS → Option ((Bool) × HS)} (hD : DSound Tryz.prog base W0 D) (hH : HSound Tryz.prog base W0 β0 H) (hrec0 : ∀ ⦃y0 : Sl⦄ ⦃y3 : (Option HA)⦄ ⦃y4 : (Option HA)⦄ ⦃y5 : (Option HA)⦄ ⦃y6 : Int⦄ ⦃ds : List Nat⦄ ⦃S : HS⦄ ⦃p : (Bool) × HS⦄ ⦃Gb Gc Gh Gi Gj Gk Gl Gm Gn Go Gp Gq Gr Gs Gt Gu Gv Gw Gx Gy Gz Ka Kb Kc Kd Ke Kf Kg Kh Ki Kj Kk Kl Km Kn Ko Kp Kq Kr Ks Kt Ku Kv Kw Kx Ky Kz Ma Mb Mc Md Me Mf Mg Mh Mi Mj Mk Ml Mm Mn Mo Mp Mq Mr Ms Mt Mu Mv Mw Mx My Mz Na Nb Nc Nd Ne Nf Ng Nh Ni Nj Nk Nl Nm Nn No Np Nq Nr Ns Nt Nu Nv Nw Nx Ny Nz Qa Qb Qc Qd Qe Qf Qg Qh Qi Qj Qk Ql Qm Qn Qo Qp Qq Qr Qs Qt Qu Qv Qw Qx Qy Qz Ua Ub Uc : HV⦄,rec0 y0 y3 y4 y5 y6 ds S = some p → HRun Tryz.prog base W0 β0 4 none [.inLoop c25,.inBlock 0,.code c39] ⟨[(Sl.hv y0),Gb,Gc,(.ptr y3),(.ptr y4),(.ptr y5),(.int .i64 y6),Gh,Gi,Gj,Gk,Gl,Gm,Gn,Go,Gp,Gq,Gr,Gs,Gt,Gu,Gv,Gw,Gx,Gy,Gz,Ka,Kb,Kc,Kd,Ke,Kf,Kg,Kh,Ki,Kj,Kk,Kl,Km,Kn,Ko,Kp,Kq,Kr,Ks,Kt,Ku,Kv,Kw,Kx,Ky,Kz,Ma,Mb,Mc,Md,Me,Mf,Mg,Mh,Mi,Mj,Mk,Ml,Mm,Mn,Mo,Mp,Mq,Mr,Ms,Mt,Mu,Mv,Mw,Mx,My,Mz,Na,Nb,Nc,Nd,Ne,Nf,Ng,Nh,Ni,Nj,Nk,Nl,Nm,Nn,No,Np,Nq,Nr,Ns,Nt,Nu,Nv,Nw,Nx,Ny,Nz,Qa,Qb,Qc,Qd,Qe,Qf,Qg,Qh,Qi,Qj,Qk,Ql,Qm,Qn,Qo,Qp,Qq,Qr,Qs,Qt,Qu,Qv,Qw,Qx,Qy,Qz,Ua,Ub,Uc],ds⟩ S (fun v S1 => v = (.bool p.1) ∧ S1 = p.2)) {y0 : Sl} {y3 : (Option HA)} {y4 : (Option HA)} {y5 : (Option HA)} {y6 : Int} {ds : List Nat} {S : HS} {p : (Bool) × HS} (h : J1 D H k rec0 y0 y3 y4 y5 y6 ds S = some p) : HRun Tryz.prog base W0 β0 4 none [.code c38,.inLoop c25,.inBlock 0,.code c39] ⟨[(Sl.hv y0),Gb,Gc,(.ptr y3),(.ptr y4),(.ptr y5),(.int .i64 y6),Gh,Gi,Gj,Gk,Gl,Gm,Gn,Go,Gp,Gq,Gr,Gs,Gt,Gu,Gv,Gw,Gx,Gy,Gz,Ka,Kb,Kc,Kd,Ke,Kf,Kg,Kh,Ki,Kj,Kk,Kl,Km,Kn,Ko,Kp,Kq,Kr,Ks,Kt,Ku,Kv,Kw,Kx,Ky,Kz,Ma,Mb,Mc,Md,Me,Mf,Mg,Mh,Mi,Mj,Mk,Ml,Mm,Mn,Mo,Mp,Mq,Mr,Ms,Mt,Mu,Mv,Mw,Mx,My,Mz,Na,Nb,Nc,Nd,Ne,Nf,Ng,Nh,Ni,Nj,Nk,Nl,Nm,Nn,No,Np,Nq,Nr,Ns,Nt,Nu,Nv,Nw,Nx,Ny,Nz,Qa,Qb,Qc,Qd,Qe,Qf,Qg,Qh,Qi,Qj,Qk,Ql,Qm,Qn,Qo,Qp,Qq,Qr,Qs,Qt,Qu,Qv,Qw,Qx,Qy,Qz,Ua,Ub,Uc],ds⟩ S (fun v S1 => v = (.bool p.1) ∧ S1 = p.2) := by
 unfold J1 at h
 refine qR rfl rfl (qS 27 rfl (oM · rfl) (qS 28 rfl (oC · rfl rfl) (qS 6 rfl (oA · rfl) (rE ?_))))
 try dsimp only [w0,w1,w2,w3]
 exact hrec0 h
def J5 (D : Dp) (H : Hd) (k : Nat) (l : Nat) (y10 : (Option HA)) (y11 : (Option HA)) (y12 : (Option HA)) (S : HS) : Option (HV × HS) :=
 (Option.bind (room_Room_Name.f y12 S) fun p72 =>
 (Option.bind (y10) fun p73 =>
 (Option.bind (HS.sets p72.2 p73 [(.str p72.1)]) fun p74 =>
 (Option.bind (y11) fun p75 =>
 (Option.bind (HS.ldI p74 .i64 p75) fun p76 =>
 (Option.bind (y11) fun p77 =>
 (Option.bind (HS.sets p74 p77 [(.int .i64 (w64 (p76 + 1)))]) fun p78 =>
 (HS.endr p78 l none))))))))
theorem J5_snd {l : Nat} (hD : DSound Tryz.prog base W0 D) (hH : HSound Tryz.prog base W0 β0 H)  {y10 : (Option HA)} {y11 : (Option HA)} {y12 : (Option HA)} {S : HS} {p : HV × HS} (h : J5 D H k l y10 y11 y12 S = some p) : HRun Tryz.prog base W0 β0 4 (some l) [.code c78,.inBlock 3] ⟨[Ga,Gb,Gc,Gd,Ge,Gf,Gg,Gh,Gi,Gj,(.ptr y10),(.ptr y11),(.ptr y12),Gn,Go,Gp,Gq,Gr,Gs,Gt,Gu,Gv,Gw,Gx,Gy,Gz,Ka,Kb,Kc,Kd,Ke,Kf,Kg,Kh,Ki,Kj,Kk,Kl,Km,Kn,Ko,Kp,Kq,Kr,Ks,Kt,Ku,Kv,Kw,Kx,Ky,Kz,Ma,Mb,Mc,Md,Me,Mf,Mg,Mh,Mi,Mj,Mk,Ml,Mm,Mn,Mo,Mp,Mq,Mr,Ms,Mt,Mu,Mv,Mw,Mx,My,Mz,Na,Nb,Nc,Nd,Ne,Nf,Ng,Nh,Ni,Nj,Nk,Nl,Nm,Nn,No,Np,Nq,Nr,Ns,Nt,Nu,Nv,Nw,Nx,Ny,Nz,Qa,Qb,Qc,Qd,Qe,Qf,Qg,Qh,Qi,Qj,Qk,Ql,Qm,Qn,Qo,Qp,Qq,Qr,Qs,Qt,Qu,Qv,Qw,Qx,Qy,Qz,Ua,Ub,Uc],[]⟩ S (fun v S1 => v = p.1 ∧ S1 = p.2) := by
 unfold J5 at h
 obtain ⟨p72,hp72,h⟩ := bindo h
 refine qQ rfl (qR rfl rfl (qS 102 rfl (oM · rfl) (q_call (dst := some 103) rfl (.func _) (.cons (.tmp rfl) Evs.nil) (HInv.static room_Room_Name.at_ room_Room_Name.body (room_Room_Name.snd  hp72)) ?_)))
 rintro _ _ ⟨rfl,rfl⟩
 obtain ⟨p73,hp73,h⟩ := bindo h
 obtain ⟨p74,hp74,h⟩ := bindo h
 refine qN rfl (ok_store_s (v := (.str p72.1)) · sz9 (.tmp rfl) hp73 (.tmp rfl) rfl hp74) (rE ?_)
 try dsimp only [w0,w1,w2,w3]
 obtain ⟨p75,hp75,h⟩ := bindo h
 obtain ⟨p76,hp76,h⟩ := bindo h
 obtain ⟨p77,hp77,h⟩ := bindo h
 obtain ⟨p78,hp78,h⟩ := bindo h
 refine qR rfl rfl (qS 104 rfl (oL · sc3 rfl hp75 (ldI_out hp76)) (qS 105 rfl (oC · rfl rfl) (qN rfl (ok_store_s (v := (.int .i64 (w64 (p76 + 1)))) · sz3 (.tmp rfl) hp77 (.tmp rfl) rfl hp78) (rE ?_))))
 try dsimp only [w0,w1,w2,w3]
 refine hr_inBlock ?_
 exact q_round_end h ⟨rfl,rfl⟩
def J4 (D : Dp) (H : Hd) (k : Nat) (l : Nat) (y3 : (Option HA)) (y4 : (Option HA)) (y9 : (Option HA)) (y10 : (Option HA)) (y11 : (Option HA)) (y12 : (Option HA)) (y89 : Bool) (S : HS) : Option (HV × HS) :=
 (if y89 = true then
 (Option.bind (y4) fun p52 =>
 (Option.bind (HS.sets S p52 [(.bool false)]) fun p53 =>
 (HS.endr p53 l (some .ret)))) else
 (Option.bind (y3) fun p54 =>
 (Option.bind (HS.ldI S .i64 p54) fun p55 =>
 (Option.bind (room_Room_Member.f D H k y12 p55 S) fun p56 =>
 (letv (HS.new p56.2 (.cells 3 [[(.int .i64 0),(.bool false),(.bool false)]] true)) fun p57 =>
 (Option.bind (HS.sets p57 (HA.cell0 p56.2.next) [(.int .i64 p56.1.1),(.bool p56.1.2.1),(.bool p56.1.2.2.1)]) fun p58 =>
 (if p56.1.2.2.2 = true then
 (Option.bind (y9) fun p60 =>
 (Option.bind (HS.ldSl p58 p60) fun p61 =>
 (Option.bind (room_Room_Name.f y12 p58) fun p62 =>
 (Option.bind (HS.ldSl p62.2 p60) fun p63 =>
 (if p63 = p61 then
 (letv (HS.lit p62.2 [[(.str p62.1)]] 1) fun p65 =>
 (Option.bind (HS.ldSl (p65.2) p60) fun p66 =>
 (if p66 = p61 then
 (Option.bind (HS.rows (p65.2) (p65.1) 1) fun p68 =>
 (Option.bind (HS.app (p65.2) p61 p68 1) fun p69 =>
 (Option.bind (y9) fun p70 =>
 (Option.bind (HS.sets (p69.2) p70 [(Sl.hv (p69.1))]) fun p71 =>
 J5 D H k l y10 y11 y12 p71)))) else none))) else none))))) else
 J5 D H k l y10 y11 y12 p58)))))))
theorem J4_snd {l : Nat} (hD : DSound Tryz.prog base W0 D) (hH : HSound Tryz.prog base W0 β0 H)  {y3 : (Option HA)} {y4 : (Option HA)} {y9 : (Option HA)} {y10 : (Option HA)} {y11 : (Option HA)} {y12 : (Option HA)} {y89 : Bool} {S : HS} {p : HV × HS} (h : J4 D H k l y3 y4 y9 y10 y11 y12 y89 S = some p) : HRun Tryz.prog base W0 β0 4 (some l) [.code c65,.code c70,.inBlock 3] ⟨[Ga,Gb,Gc,(.ptr y3),(.ptr y4),Gf,Gg,Gh,Gi,(.ptr y9),(.ptr y10),(.ptr y11),(.ptr y12),Gn,Go,Gp,Gq,Gr,Gs,Gt,Gu,Gv,Gw,Gx,Gy,Gz,Ka,Kb,Kc,Kd,Ke,Kf,Kg,Kh,Ki,Kj,Kk,Kl,Km,Kn,Ko,Kp,Kq,Kr,Ks,Kt,Ku,Kv,Kw,Kx,Ky,Kz,Ma,Mb,Mc,Md,Me,Mf,Mg,Mh,Mi,Mj,Mk,Ml,Mm,Mn,Mo,Mp,Mq,Mr,Ms,Mt,Mu,Mv,Mw,Mx,My,Mz,Na,Nb,Nc,Nd,Ne,Nf,Ng,Nh,Ni,Nj,Nk,(.bool y89),Nm,Nn,No,Np,Nq,Nr,Ns,Nt,Nu,Nv,Nw,Nx,Ny,Nz,Qa,Qb,Qc,Qd,Qe,Qf,Qg,Qh,Qi,Qj,Qk,Ql,Qm,Qn,Qo,Qp,Qq,Qr,Qs,Qt,Qu,Qv,Qw,Qx,Qy,Qz,Ua,Ub,Uc],[]⟩ S (fun v S1 => v = p.1 ∧ S1 = p.2) := by
 unfold J4 at h
 rcases ifc h with ⟨hc51,h⟩ | ⟨hc51,h⟩
 ·obtain ⟨p52,hp52,h⟩ := bindo h
  obtain ⟨p53,hp53,h⟩ := bindo h
  refine q_cond_t rfl (.tmp rfl) hc51 (qQ rfl (qR rfl rfl (qN rfl (ok_store_s (v := (.bool false)) · sz4 (.tmp rfl) hp52 (.bool _) rfl hp53) (rE ?_))))
  try dsimp only [w0,w1,w2,w3]
  exact q_round_ret rfl h ⟨rfl,rfl⟩
 ·obtain ⟨p54,hp54,h⟩ := bindo h
  obtain ⟨p55,hp55,h⟩ := bindo h
  obtain ⟨p56,hp56,h⟩ := bindo h
  refine q_cond_f rfl (.tmp rfl) (bfalse hc51) (q_skipc rfl (qQ rfl (qQ rfl (qR rfl rfl (qS 91 rfl (oM · rfl) (qS 92 rfl (oL · sc3 rfl hp54 (ldI_out hp55)) (q_call (dst := some 93) rfl (.func _) (.cons (.tmp rfl) (.cons (.tmp rfl) Evs.nil)) (HInv.static room_Room_Member.at_ room_Room_Member.body (room_Room_Member.snd hD hH hp56)) ?_)))))))
  rintro _ _ ⟨rfl,rfl⟩
  refine qS 90 rfl (oM · rfl) ?_
  try dsimp only [w0,w1,w2,w3]
  obtain ⟨p57,hp57,h⟩ := leto h
  obtain ⟨p58,hp58,h⟩ := bindo h
  refine qS 94 rfl (ok_extract · (.tmp rfl) rfl) (qS 95 rfl (ok_extract · (.tmp rfl) rfl) (qS 13 rfl (ok_alloc_e · zi62 zr62 (by decide) rfl hp57) (qN rfl (ok_store_s (v := (.agg [(.int .i64 p56.1.1),(.bool p56.1.2.1),(.bool p56.1.2.2.1)])) · sz62 (.tmp rfl) rfl (.tmp rfl) rfl hp58) ?_)))
  try dsimp only [w0,w1,w2,w3]
  refine qS 14 rfl (oA · rfl) (rE ?_)
  try dsimp only [w0,w1,w2,w3]
  refine qQ rfl (qR rfl rfl (qS 96 rfl (oM · rfl) (rE ?_)))
  try dsimp only [w0,w1,w2,w3]
  rcases ifc h with ⟨hc59,h⟩ | ⟨hc59,h⟩
  ·refine q_cond_t rfl (.tmp rfl) hc59 ?_
   refine x_start (cls := [3,0,2,2,2,2]) (rk := [0,1,2,3,4,5]) rfl (by kernel_rfl) ?_
   obtain ⟨p60,hp60,h⟩ := bindo h
   obtain ⟨p61,hp61,h⟩ := bindo h
   refine x_late (r_op (dst := some 97) (ts := [9]) rfl (by intro _ _ h; cases h) (by kernel_rfl) (fun _ ho => ok_load_s ho sc57 (.tmp rfl) hp60 (ldSl_out hp61))) rfl trivial ?_
   refine xf 98 [12] rfl (oM · rfl) ?_
   obtain ⟨p62,hp62,h⟩ := bindo h
   obtain ⟨p63,hp63,h⟩ := bindo h
   obtain ⟨hg64,h⟩ := gd h
   refine x_goE (e_call (dst := some 99) (ts := [98]) rfl (by kernel_rfl) (.func _) (.cons (.tmp rfl) Evs.nil) (HInv.static room_Room_Name.at_ room_Room_Name.body (room_Room_Name.snd  hp62))) rfl ⟨.inr (l_op (dst := some 97) (ts := [9]) rfl (by intro _ _ h; cases h) (by kernel_rfl) (fun _ ho => ok_load_s ho sc57 (.tmp rfl) hp60 (ldSl_out (hp63.trans (congrArg some hg64))))),trivial⟩ ?_
   obtain ⟨p65,hp65,h⟩ := leto h
   obtain ⟨p66,hp66,h⟩ := bindo h
   obtain ⟨hg67,h⟩ := gd h
   refine ze 100 [99] rfl (ok_buildSlice_s (xs := [(.tmp 99)]) el57 · rfl rfl (by decide) (.cons (.tmp rfl) Evs.nil) rfl rfl hp65) ⟨.inr (l_op (dst := some 97) (ts := [9]) rfl (by intro _ _ h; cases h) (by kernel_rfl) (fun _ ho => ok_load_s ho sc57 (.tmp rfl) hp60 (ldSl_out (hp66.trans (congrArg some hg67))))),trivial⟩ ?_
   try dsimp only [w0,w1,w2,w3]
   obtain ⟨p68,hp68,h⟩ := bindo h
   obtain ⟨p69,hp69,h⟩ := bindo h
   refine ze 101 [97,100] rfl (ok_append (s := p61) (s1 := (p65.1)) el57 · rfl rfl ⟨_,tu57⟩ (.tmp rfl) (.tmp rfl) hp68 hp69) ⟨.inl (by kernel_rfl),trivial⟩ ?_
   obtain ⟨p70,hp70,h⟩ := bindo h
   obtain ⟨p71,hp71,h⟩ := bindo h
   refine x_goE (e_op (dst := none) (ts := [9,101]) rfl (by intro _ _ h; cases h) (by kernel_rfl) (fun _ ho => ok_store_s (v := (Sl.hv (p69.1))) ho sz57 (.tmp rfl) hp70 (.tmp rfl) rfl hp71)) rfl ⟨.inl (by kernel_rfl),trivial⟩ ?_
   refine x_rest rfl ?_
   refine rE ?_
   try dsimp only [w0,w1,w2,w3]
   exact J5_snd hD hH h
  ·refine q_cond_f rfl (.tmp rfl) (bfalse hc59) (q_skipc rfl ?_)
   try dsimp only [w0,w1,w2,w3]
   exact J5_snd hD hH h
def J3 (D : Dp) (H : Hd) (k : Nat) (l : Nat) (y3 : (Option HA)) (y4 : (Option HA)) (y9 : (Option HA)) (y10 : (Option HA)) (y11 : (Option HA)) (y71 : (Option HA)) (S : HS) : Option (HV × HS) :=
 (Option.bind (HS.begin_ S l) fun p47 =>
 (Option.bind (y11) fun p48 =>
 (Option.bind (HS.ldI p47 .i64 p48) fun p49 =>
 (if p49 > 50 then
 J4 D H k l y3 y4 y9 y10 y11 y71 true p47 else
 (Option.bind (room_Room_Len.f y71 p47) fun p79 =>
 (if p79.1 = 0 then
 J4 D H k l y3 y4 y9 y10 y11 y71 true p79.2 else
 (Option.bind (y11) fun p81 =>
 (Option.bind (HS.ldI p79.2 .i64 p81) fun p82 =>
 (if p82 > 0 then
 (Option.bind (y10) fun p84 =>
 (Option.bind (HS.ldS p79.2 p84) fun p85 =>
 (Option.bind (room_Room_Name.f y71 p79.2) fun p86 =>
 (Option.bind (HS.ldS p86.2 p84) fun p87 =>
 (if p87 = p85 then
 (Option.bind (rollcallref01_Compare.f k p85 p86.1 p86.2) fun p89 =>
 J4 D H k l y3 y4 y9 y10 y11 y71 (decide (p89.1 ≥ 0)) p89.2) else none))))) else
 J4 D H k l y3 y4 y9 y10 y11 y71 false p79.2)))))))))
theorem J3_snd {l : Nat} (hD : DSound Tryz.prog base W0 D) (hH : HSound Tryz.prog base W0 β0 H)  {y3 : (Option HA)} {y4 : (Option HA)} {y9 : (Option HA)} {y10 : (Option HA)} {y11 : (Option HA)} {y71 : (Option HA)} {S : HS} {p : HV × HS} (h : J3 D H k l y3 y4 y9 y10 y11 y71 S = some p) : HRun Tryz.prog base W0 β0 4 (some l) [.code c60,.beginRound,.code c61] ⟨[Ga,Gb,Gc,(.ptr y3),(.ptr y4),Gf,Gg,Gh,Gi,(.ptr y9),(.ptr y10),(.ptr y11),Gm,Gn,Go,Gp,Gq,Gr,Gs,Gt,Gu,Gv,Gw,Gx,Gy,Gz,Ka,Kb,Kc,Kd,Ke,Kf,Kg,Kh,Ki,Kj,Kk,Kl,Km,Kn,Ko,Kp,Kq,Kr,Ks,Kt,Ku,Kv,Kw,Kx,Ky,Kz,Ma,Mb,Mc,Md,Me,Mf,Mg,Mh,Mi,Mj,Mk,Ml,Mm,Mn,Mo,Mp,Mq,Mr,Ms,(.ptr y71),Mu,Mv,Mw,Mx,My,Mz,Na,Nb,Nc,Nd,Ne,Nf,Ng,Nh,Ni,Nj,Nk,Nl,Nm,Nn,No,Np,Nq,Nr,Ns,Nt,Nu,Nv,Nw,Nx,Ny,Nz,Qa,Qb,Qc,Qd,Qe,Qf,Qg,Qh,Qi,Qj,Qk,Ql,Qm,Qn,Qo,Qp,Qq,Qr,Qs,Qt,Qu,Qv,Qw,Qx,Qy,Qz,Ua,Ub,Uc],[]⟩ S (fun v S1 => v = p.1 ∧ S1 = p.2) := by
 unfold J3 at h
 refine qR rfl rfl (qS 12 rfl (oA · rfl) (rE ?_))
 try dsimp only [w0,w1,w2,w3]
 obtain ⟨p47,hp47,h⟩ := bindo h
 refine q_begin hp47 ?_
 refine q_block rfl (qQ rfl (qQ rfl ?_))
 refine x_start (cls := [1,0,0,0,2,0,0,0,1,0,0,3,0,2,2,0,0,0]) (rk := [0,1,2,3,4,5,6,7,8,9,10,11,12,13,14,15,16,17]) rfl (by kernel_rfl) ?_
 obtain ⟨p48,hp48,h⟩ := bindo h
 obtain ⟨p49,hp49,h⟩ := bindo h
 refine xr 72 [11] rfl (oL · sc3 rfl hp48 (ldI_out hp49)) ?_
 refine xf 73 [72] rfl (oC · rfl rfl) ?_
 refine xf 74 [73] rfl (oM · rfl) ?_
 rcases ifc h with ⟨hc50,h⟩ | ⟨hc50,h⟩
 ·refine xfs 75 74 [12,74] rfl (decide_eq_true hc50) ?_
  try dsimp only [w0,w1,w2,w3]
  refine zes 76 74 [75,74] rfl (decide_eq_true hc50) trivial ?_
  refine xfs 77 74 [76,74] rfl (decide_eq_true hc50) ?_
  refine xf 78 [74,77] rfl (ok_pick_tt · (.tmp rfl) (decide_eq_true hc50) (.bool _)) ?_
  refine xf 79 [78] rfl (oM · rfl) ?_
  try dsimp only [w0,w1,w2,w3]
  refine xrs 80 79 [11,79] rfl rfl ?_
  refine xfs 81 79 [80,79] rfl rfl ?_
  refine xfs 82 79 [81,79] rfl rfl ?_
  refine x_late (r_skip_u (dst := some 83) (t := 82) (ts := [10,82]) rfl (by kernel_rfl) rfl rfl) rfl ⟨.inl (by kernel_rfl),trivial⟩ ?_
  try dsimp only [w0,w1,w2,w3]
  refine x_goP (f_skip_u (dst := some 84) (t := 82) (ts := [12,82]) rfl (by kernel_rfl) rfl rfl) rfl (by decide) (by decide) ?_
  refine x_goE (e_skip_u (dst := some 85) (t := 82) (ts := [84,82]) rfl (by kernel_rfl) rfl rfl) rfl ⟨.inr (l_skip_u (dst := some 83) (t := 82) (ts := [10,82]) rfl (by kernel_rfl) rfl rfl),trivial⟩ ?_
  refine x_goE (e_skip_u (dst := some 86) (t := 82) (ts := [83,85,82]) rfl (by kernel_rfl) rfl rfl) rfl ⟨.inl (by kernel_rfl),trivial⟩ ?_
  refine x_goP (f_skip_u (dst := some 87) (t := 82) (ts := [86,82]) rfl (by kernel_rfl) rfl rfl) rfl (by decide) (by decide) ?_
  try dsimp only [w0,w1,w2,w3]
  refine xfs 88 79 [82,87,79] rfl rfl ?_
  refine xf 89 [79,88] rfl (ok_pick_tt · (.tmp rfl) rfl (.bool _)) ?_
  refine x_rest rfl ?_
  refine rE ?_
  try dsimp only [w0,w1,w2,w3]
  exact J4_snd hD hH h
 ·refine xfg 75 74 [12,74] rfl (decide_eq_false hc50) (oM · rfl) ?_
  try dsimp only [w0,w1,w2,w3]
  obtain ⟨p79,hp79,h⟩ := bindo h
  refine x_goE (e_call_g (dst := some 76) (t := 74) (ts := [75,74]) rfl (by kernel_rfl) rfl rfl (decide_eq_false hc50) (.func _) (.cons (.tmp rfl) Evs.nil) (HInv.static room_Room_Len.at_ room_Room_Len.body (room_Room_Len.snd  hp79))) rfl trivial ?_
  refine xfg 77 74 [76,74] rfl (decide_eq_false hc50) (oC · rfl rfl) ?_
  refine xf 78 [74,77] rfl (ok_pick_ff · (.tmp rfl) (decide_eq_false hc50) (.tmp rfl)) ?_
  refine xf 79 [78] rfl (oM · rfl) ?_
  try dsimp only [w0,w1,w2,w3]
  rcases ifc h with ⟨hc80,h⟩ | ⟨hc80,h⟩
  ·refine xrs 80 79 [11,79] rfl (decide_eq_true hc80) ?_
   refine xfs 81 79 [80,79] rfl (decide_eq_true hc80) ?_
   refine xfs 82 79 [81,79] rfl (decide_eq_true hc80) ?_
   refine x_late (r_skip_u (dst := some 83) (t := 82) (ts := [10,82]) rfl (by kernel_rfl) rfl rfl) rfl ⟨.inl (by kernel_rfl),trivial⟩ ?_
   try dsimp only [w0,w1,w2,w3]
   refine x_goP (f_skip_u (dst := some 84) (t := 82) (ts := [12,82]) rfl (by kernel_rfl) rfl rfl) rfl (by decide) (by decide) ?_
   refine x_goE (e_skip_u (dst := some 85) (t := 82) (ts := [84,82]) rfl (by kernel_rfl) rfl rfl) rfl ⟨.inr (l_skip_u (dst := some 83) (t := 82) (ts := [10,82]) rfl (by kernel_rfl) rfl rfl),trivial⟩ ?_
   refine x_goE (e_skip_u (dst := some 86) (t := 82) (ts := [83,85,82]) rfl (by kernel_rfl) rfl rfl) rfl ⟨.inl (by kernel_rfl),trivial⟩ ?_
   refine x_goP (f_skip_u (dst := some 87) (t := 82) (ts := [86,82]) rfl (by kernel_rfl) rfl rfl) rfl (by decide) (by decide) ?_
   try dsimp only [w0,w1,w2,w3]
   refine xfs 88 79 [82,87,79] rfl (decide_eq_true hc80) ?_
   refine xf 89 [79,88] rfl (ok_pick_tt · (.tmp rfl) (decide_eq_true hc80) (.bool _)) ?_
   refine x_rest rfl ?_
   refine rE ?_
   try dsimp only [w0,w1,w2,w3]
   exact J4_snd hD hH h
  ·obtain ⟨p81,hp81,h⟩ := bindo h
   obtain ⟨p82,hp82,h⟩ := bindo h
   refine xrg 80 79 [11,79] rfl (decide_eq_false hc80) (oL · sc3 rfl hp81 (ldI_out hp82)) ?_
   refine xfg 81 79 [80,79] rfl (decide_eq_false hc80) (oC · rfl rfl) ?_
   refine xfg 82 79 [81,79] rfl (decide_eq_false hc80) (oM · rfl) ?_
   rcases ifc h with ⟨hc83,h⟩ | ⟨hc83,h⟩
   ·obtain ⟨p84,hp84,h⟩ := bindo h
    obtain ⟨p85,hp85,h⟩ := bindo h
    refine x_late (r_op_g (dst := some 83) (t := 82) (ts := [10,82]) rfl (by intro _ _ h; cases h) (by kernel_rfl) rfl rfl (decide_eq_true hc83) (fun _ ho => ok_load_s ho sc9 (.tmp rfl) hp84 (ldS_out hp85))) rfl ⟨.inl (by kernel_rfl),trivial⟩ ?_
    try dsimp only [w0,w1,w2,w3]
    refine xfg 84 82 [12,82] rfl (decide_eq_true hc83) (oM · rfl) ?_
    obtain ⟨p86,hp86,h⟩ := bindo h
    obtain ⟨p87,hp87,h⟩ := bindo h
    obtain ⟨hg88,h⟩ := gd h
    refine x_goE (e_call_g (dst := some 85) (t := 82) (ts := [84,82]) rfl (by kernel_rfl) rfl rfl (decide_eq_true hc83) (.func _) (.cons (.tmp rfl) Evs.nil) (HInv.static room_Room_Name.at_ room_Room_Name.body (room_Room_Name.snd  hp86))) rfl ⟨.inr (l_op_g (dst := some 83) (t := 82) (ts := [10,82]) rfl (by intro _ _ h; cases h) (by kernel_rfl) rfl rfl (decide_eq_true hc83) (fun _ ho => ok_load_s ho sc9 (.tmp rfl) hp84 (ldS_out (hp87.trans (congrArg some hg88))))),trivial⟩ ?_
    obtain ⟨p89,hp89,h⟩ := bindo h
    refine x_goE (e_call_g (dst := some 86) (t := 82) (ts := [83,85,82]) rfl (by kernel_rfl) rfl rfl (decide_eq_true hc83) (.func _) (.cons (.tmp rfl) (.cons (.tmp rfl) Evs.nil)) (HInv.static rollcallref01_Compare.at_ rollcallref01_Compare.body (rollcallref01_Compare.snd  hp89))) rfl ⟨.inl (by kernel_rfl),trivial⟩ ?_
    refine xfg 87 82 [86,82] rfl (decide_eq_true hc83) (oC · rfl rfl) ?_
    try dsimp only [w0,w1,w2,w3]
    refine xfg 88 79 [82,87,79] rfl (decide_eq_false hc80) (ok_pick_tt · (.tmp rfl) (decide_eq_true hc83) (.tmp rfl)) ?_
    refine xf 89 [79,88] rfl (ok_pick_ff · (.tmp rfl) (decide_eq_false hc80) (.tmp rfl)) ?_
    refine x_rest rfl ?_
    refine rE ?_
    try dsimp only [w0,w1,w2,w3]
    exact J4_snd hD hH h
   ·refine x_late (r_skip (dst := some 83) (t := 82) (ts := [10,82]) rfl (by kernel_rfl) rfl rfl (decide_eq_false hc83)) rfl ⟨.inl (by kernel_rfl),trivial⟩ ?_
    try dsimp only [w0,w1,w2,w3]
    refine xfs 84 82 [12,82] rfl (decide_eq_false hc83) ?_
    refine zes 85 82 [84,82] rfl (decide_eq_false hc83) ⟨.inr (l_skip (dst := some 83) (t := 82) (ts := [10,82]) rfl (by kernel_rfl) rfl rfl (decide_eq_false hc83)),trivial⟩ ?_
    refine zes 86 82 [83,85,82] rfl (decide_eq_false hc83) ⟨.inl (by kernel_rfl),trivial⟩ ?_
    refine xfs 87 82 [86,82] rfl (decide_eq_false hc83) ?_
    try dsimp only [w0,w1,w2,w3]
    refine xfg 88 79 [82,87,79] rfl (decide_eq_false hc80) (ok_pick_ff · (.tmp rfl) (decide_eq_false hc83) (.bool _)) ?_
    refine xf 89 [79,88] rfl (ok_pick_ff · (.tmp rfl) (decide_eq_false hc80) (.tmp rfl)) ?_
    refine x_rest rfl ?_
    refine rE ?_
    try dsimp only [w0,w1,w2,w3]
    exact J4_snd hD hH h
def J7 (D : Dp) (H : Hd) (k : Nat) (l : Nat) (y4 : (Option HA)) (y15 : (Option HA)) (y120 : Bool) (S : HS) : Option (HV × HS) :=
 (if y120 = true then
 (Option.bind (y4) fun p106 =>
 (Option.bind (HS.sets S p106 [(.bool false)]) fun p107 =>
 (HS.endr p107 l (some .ret)))) else
 (Option.bind (y15) fun p108 =>
 (Option.bind (HS.ldI S .i64 p108) fun p109 =>
 (Option.bind (y15) fun p110 =>
 (Option.bind (HS.sets S p110 [(.int .i64 (w64 (p109 + 1)))]) fun p111 =>
 (HS.endr p111 l none))))))
theorem J7_snd {l : Nat} (hD : DSound Tryz.prog base W0 D) (hH : HSound Tryz.prog base W0 β0 H)  {y4 : (Option HA)} {y15 : (Option HA)} {y120 : Bool} {S : HS} {p : HV × HS} (h : J7 D H k l y4 y15 y120 S = some p) : HRun Tryz.prog base W0 β0 4 (some l) [.code c93,.code c98,.inBlock 5] ⟨[Ga,Gb,Gc,Gd,(.ptr y4),Gf,Gg,Gh,Gi,Gj,Gk,Gl,Gm,Gn,Go,(.ptr y15),Gq,Gr,Gs,Gt,Gu,Gv,Gw,Gx,Gy,Gz,Ka,Kb,Kc,Kd,Ke,Kf,Kg,Kh,Ki,Kj,Kk,Kl,Km,Kn,Ko,Kp,Kq,Kr,Ks,Kt,Ku,Kv,Kw,Kx,Ky,Kz,Ma,Mb,Mc,Md,Me,Mf,Mg,Mh,Mi,Mj,Mk,Ml,Mm,Mn,Mo,Mp,Mq,Mr,Ms,Mt,Mu,Mv,Mw,Mx,My,Mz,Na,Nb,Nc,Nd,Ne,Nf,Ng,Nh,Ni,Nj,Nk,Nl,Nm,Nn,No,Np,Nq,Nr,Ns,Nt,Nu,Nv,Nw,Nx,Ny,Nz,Qa,Qb,Qc,Qd,Qe,Qf,Qg,Qh,Qi,Qj,Qk,Ql,Qm,Qn,Qo,Qp,(.bool y120),Qr,Qs,Qt,Qu,Qv,Qw,Qx,Qy,Qz,Ua,Ub,Uc],[]⟩ S (fun v S1 => v = p.1 ∧ S1 = p.2) := by
 unfold J7 at h
 rcases ifc h with ⟨hc105,h⟩ | ⟨hc105,h⟩
 ·obtain ⟨p106,hp106,h⟩ := bindo h
  obtain ⟨p107,hp107,h⟩ := bindo h
  refine q_cond_t rfl (.tmp rfl) hc105 (qQ rfl (qR rfl rfl (qN rfl (ok_store_s (v := (.bool false)) · sz4 (.tmp rfl) hp106 (.bool _) rfl hp107) (rE ?_))))
  try dsimp only [w0,w1,w2,w3]
  exact q_round_ret rfl h ⟨rfl,rfl⟩
 ·obtain ⟨p108,hp108,h⟩ := bindo h
  obtain ⟨p109,hp109,h⟩ := bindo h
  obtain ⟨p110,hp110,h⟩ := bindo h
  obtain ⟨p111,hp111,h⟩ := bindo h
  refine q_cond_f rfl (.tmp rfl) (bfalse hc105) (q_skipc rfl (qR rfl rfl (qS 121 rfl (oL · sc3 rfl hp108 (ldI_out hp109)) (qS 122 rfl (oC · rfl rfl) (qN rfl (ok_store_s (v := (.int .i64 (w64 (p109 + 1)))) · sz3 (.tmp rfl) hp110 (.tmp rfl) rfl hp111) (rE ?_))))))
  try dsimp only [w0,w1,w2,w3]
  refine hr_inBlock ?_
  exact q_round_end h ⟨rfl,rfl⟩
def J6 (D : Dp) (H : Hd) (k : Nat) (l : Nat) (y4 : (Option HA)) (y9 : (Option HA)) (y15 : (Option HA)) (y107 : (Option HA)) (S : HS) : Option (HV × HS) :=
 (Option.bind (HS.begin_ S l) fun p99 =>
 (Option.bind (y15) fun p100 =>
 (Option.bind (HS.ldI p99 .i64 p100) fun p101 =>
 (Option.bind (y9) fun p102 =>
 (Option.bind (HS.ldSl p99 p102) fun p103 =>
 (if p101 ≥ (Sl.len p103 : Int) then
 J7 D H k l y4 y15 true p99 else
 (Option.bind (room_Room_Name.f y107 p99) fun p112 =>
 (Option.bind (y9) fun p113 =>
 (Option.bind (HS.ldSl p112.2 p113) fun p114 =>
 (Option.bind (HS.ldSl p99 p113) fun p115 =>
 (if p115 = p114 then
 (Option.bind (y15) fun p117 =>
 (Option.bind (HS.ldI p112.2 .i64 p117) fun p118 =>
 (Option.bind (HS.ldI p99 .i64 p117) fun p119 =>
 (if p119 = p118 then
 (Option.bind (HS.idx p112.2 p114 p118 1) fun p121 =>
 (Option.bind (HS.idx p99 p114 p118 1) fun p122 =>
 (if p122 = p121 then
 (Option.bind (HS.ldS p112.2 p121) fun p124 =>
 (Option.bind (HS.ldS p99 p121) fun p125 =>
 (if p125 = p124 then
 J7 D H k l y4 y15 (!decide (p112.1 = p124)) p112.2 else none))) else none))) else none)))) else none)))))))))))
theorem J6_snd {l : Nat} (hD : DSound Tryz.prog base W0 D) (hH : HSound Tryz.prog base W0 β0 H)  {y4 : (Option HA)} {y9 : (Option HA)} {y15 : (Option HA)} {y107 : (Option HA)} {S : HS} {p : HV × HS} (h : J6 D H k l y4 y9 y15 y107 S = some p) : HRun Tryz.prog base W0 β0 4 (some l) [.code c88,.beginRound,.code c89] ⟨[Ga,Gb,Gc,Gd,(.ptr y4),Gf,Gg,Gh,Gi,(.ptr y9),Gk,Gl,Gm,Gn,Go,(.ptr y15),Gq,Gr,Gs,Gt,Gu,Gv,Gw,Gx,Gy,Gz,Ka,Kb,Kc,Kd,Ke,Kf,Kg,Kh,Ki,Kj,Kk,Kl,Km,Kn,Ko,Kp,Kq,Kr,Ks,Kt,Ku,Kv,Kw,Kx,Ky,Kz,Ma,Mb,Mc,Md,Me,Mf,Mg,Mh,Mi,Mj,Mk,Ml,Mm,Mn,Mo,Mp,Mq,Mr,Ms,Mt,Mu,Mv,Mw,Mx,My,Mz,Na,Nb,Nc,Nd,Ne,Nf,Ng,Nh,Ni,Nj,Nk,Nl,Nm,Nn,No,Np,Nq,Nr,Ns,Nt,Nu,Nv,Nw,Nx,Ny,Nz,Qa,Qb,Qc,(.ptr y107),Qe,Qf,Qg,Qh,Qi,Qj,Qk,Ql,Qm,Qn,Qo,Qp,Qq,Qr,Qs,Qt,Qu,Qv,Qw,Qx,Qy,Qz,Ua,Ub,Uc],[]⟩ S (fun v S1 => v = p.1 ∧ S1 = p.2) := by
 unfold J6 at h
 refine qR rfl rfl (qS 16 rfl (oA · rfl) (rE ?_))
 try dsimp only [w0,w1,w2,w3]
 obtain ⟨p99,hp99,h⟩ := bindo h
 refine q_begin hp99 ?_
 refine q_block rfl (qQ rfl (qQ rfl ?_))
 refine x_start (cls := [1,1,0,0,0,0,2,3,3,3,3,0,0]) (rk := [0,1,2,3,4,5,6,7,8,9,10,11,12]) rfl (by kernel_rfl) ?_
 obtain ⟨p100,hp100,h⟩ := bindo h
 obtain ⟨p101,hp101,h⟩ := bindo h
 refine xr 108 [15] rfl (oL · sc3 rfl hp100 (ldI_out hp101)) ?_
 obtain ⟨p102,hp102,h⟩ := bindo h
 obtain ⟨p103,hp103,h⟩ := bindo h
 refine xr 109 [9] rfl (oL · sc57 rfl hp102 (ldSl_out hp103)) ?_
 refine xf 110 [109] rfl (ok_len_sl (q := Sl.a p103) (n := Sl.len p103) (z := Sl.cap p103) · rfl tu57 (.tmp rfl)) ?_
 refine xf 111 [108,110] rfl (oB · rfl rfl rfl) ?_
 try dsimp only [w0,w1,w2,w3]
 refine xf 112 [111] rfl (oM · rfl) ?_
 rcases ifc h with ⟨hc104,h⟩ | ⟨hc104,h⟩
 ·refine xfs 113 112 [16,112] rfl (decide_eq_true hc104) ?_
  refine zes 114 112 [113,112] rfl (decide_eq_true hc104) trivial ?_
  refine x_late (r_skip (dst := some 115) (t := 112) (ts := [9,112]) rfl (by kernel_rfl) rfl rfl (decide_eq_true hc104)) rfl ⟨.inr (l_skip (dst := some 115) (t := 112) (ts := [9,112]) rfl (by kernel_rfl) rfl rfl (decide_eq_true hc104)),trivial⟩ ?_
  try dsimp only [w0,w1,w2,w3]
  refine x_late (r_skip (dst := some 116) (t := 112) (ts := [15,112]) rfl (by kernel_rfl) rfl rfl (decide_eq_true hc104)) rfl ⟨.inr (l_skip (dst := some 116) (t := 112) (ts := [15,112]) rfl (by kernel_rfl) rfl rfl (decide_eq_true hc104)),trivial⟩ ?_
  refine x_late (r_skip (dst := some 117) (t := 112) (ts := [115,116,112]) rfl (by kernel_rfl) rfl rfl (decide_eq_true hc104)) rfl ⟨.inr (l_skip (dst := some 117) (t := 112) (ts := [115,116,112]) rfl (by kernel_rfl) rfl rfl (decide_eq_true hc104)),trivial⟩ ?_
  refine x_late (r_skip (dst := some 118) (t := 112) (ts := [117,112]) rfl (by kernel_rfl) rfl rfl (decide_eq_true hc104)) rfl ⟨.inr (l_skip (dst := some 118) (t := 112) (ts := [117,112]) rfl (by kernel_rfl) rfl rfl (decide_eq_true hc104)),trivial⟩ ?_
  refine xfs 119 112 [114,118,112] rfl (decide_eq_true hc104) ?_
  try dsimp only [w0,w1,w2,w3]
  refine xf 120 [112,119] rfl (ok_pick_tt · (.tmp rfl) (decide_eq_true hc104) (.bool _)) ?_
  refine x_rest rfl ?_
  refine rE ?_
  try dsimp only [w0,w1,w2,w3]
  exact J7_snd hD hH h
 ·refine xfg 113 112 [16,112] rfl (decide_eq_false hc104) (oM · rfl) ?_
  obtain ⟨p112,hp112,h⟩ := bindo h
  refine x_goE (e_call_g (dst := some 114) (t := 112) (ts := [113,112]) rfl (by kernel_rfl) rfl rfl (decide_eq_false hc104) (.func _) (.cons (.tmp rfl) Evs.nil) (HInv.static room_Room_Name.at_ room_Room_Name.body (room_Room_Name.snd  hp112))) rfl trivial ?_
  obtain ⟨p113,hp113,h⟩ := bindo h
  obtain ⟨p114,hp114,h⟩ := bindo h
  obtain ⟨p115,hp115,h⟩ := bindo h
  obtain ⟨hg116,h⟩ := gd h
  refine x_late (r_op_g (dst := some 115) (t := 112) (ts := [9,112]) rfl (by intro _ _ h; cases h) (by kernel_rfl) rfl rfl (decide_eq_false hc104) (fun _ ho => ok_load_s ho sc57 (.tmp rfl) hp113 (ldSl_out hp114))) rfl ⟨.inr (l_op_g (dst := some 115) (t := 112) (ts := [9,112]) rfl (by intro _ _ h; cases h) (by kernel_rfl) rfl rfl (decide_eq_false hc104) (fun _ ho => ok_load_s ho sc57 (.tmp rfl) hp113 (ldSl_out (hp115.trans (congrArg some hg116))))),trivial⟩ ?_
  try dsimp only [w0,w1,w2,w3]
  obtain ⟨p117,hp117,h⟩ := bindo h
  obtain ⟨p118,hp118,h⟩ := bindo h
  obtain ⟨p119,hp119,h⟩ := bindo h
  obtain ⟨hg120,h⟩ := gd h
  refine x_late (r_op_g (dst := some 116) (t := 112) (ts := [15,112]) rfl (by intro _ _ h; cases h) (by kernel_rfl) rfl rfl (decide_eq_false hc104) (fun _ ho => ok_load_s ho sc3 (.tmp rfl) hp117 (ldI_out hp118))) rfl ⟨.inr (l_op_g (dst := some 116) (t := 112) (ts := [15,112]) rfl (by intro _ _ h; cases h) (by kernel_rfl) rfl rfl (decide_eq_false hc104) (fun _ ho => ok_load_s ho sc3 (.tmp rfl) hp117 (ldI_out (hp119.trans (congrArg some hg120))))),trivial⟩ ?_
  obtain ⟨p121,hp121,h⟩ := bindo h
  obtain ⟨p122,hp122,h⟩ := bindo h
  obtain ⟨hg123,h⟩ := gd h
  refine x_late (r_op_g (dst := some 117) (t := 112) (ts := [115,116,112]) rfl (by intro _ _ h; cases h) (by kernel_rfl) rfl rfl (decide_eq_false hc104) (fun _ ho => ok_indexAddr (s := p114) ho tu57 sz9 (.tmp rfl) (.tmp rfl) hp121)) rfl ⟨.inr (l_op_g (dst := some 117) (t := 112) (ts := [115,116,112]) rfl (by intro _ _ h; cases h) (by kernel_rfl) rfl rfl (decide_eq_false hc104) (fun _ ho => ok_indexAddr (s := p114) ho tu57 sz9 (.tmp rfl) (.tmp rfl) (hp122.trans (congrArg some hg123)))),trivial⟩ ?_
  obtain ⟨p124,hp124,h⟩ := bindo h
  obtain ⟨p125,hp125,h⟩ := bindo h
  obtain ⟨hg126,h⟩ := gd h
  refine x_late (r_op_g (dst := some 118) (t := 112) (ts := [117,112]) rfl (by intro _ _ h; cases h) (by kernel_rfl) rfl rfl (decide_eq_false hc104) (fun _ ho => ok_load_s ho sc9 (.tmp rfl) rfl (ldS_out hp124))) rfl ⟨.inr (l_op_g (dst := some 118) (t := 112) (ts := [117,112]) rfl (by intro _ _ h; cases h) (by kernel_rfl) rfl rfl (decide_eq_false hc104) (fun _ ho => ok_load_s ho sc9 (.tmp rfl) rfl (ldS_out (hp125.trans (congrArg some hg126))))),trivial⟩ ?_
  refine xfg 119 112 [114,118,112] rfl (decide_eq_false hc104) (ok_sbin · (.tmp rfl) (.tmp rfl) rfl) ?_
  try dsimp only [w0,w1,w2,w3]
  refine xf 120 [112,119] rfl (ok_pick_ff · (.tmp rfl) (decide_eq_false hc104) (.tmp rfl)) ?_
  refine x_rest rfl ?_
  refine rE ?_
  try dsimp only [w0,w1,w2,w3]
  exact J7_snd hD hH h
def J2 (D : Dp) (H : Hd) (k : Nat) (y3 : (Option HA)) (y4 : (Option HA)) (y5 : (Option HA)) (y7 : HV) (y8 : HV) (y69 : Bool) (ds : List Nat) (S : HS) : Option ((Bool) × HS) :=
 (if y69 = true then
 (Option.bind (y4) fun p37 =>
 (Option.bind (HS.sets S p37 [(.bool false)]) fun p38 =>
 (Option.bind (HS.leave p38 ds) fun p39 =>
 (Option.bind (y4) fun p40 =>
 (Option.bind (HS.ldB p39 p40) fun p41 =>
 some (p41,p39)))))) else
 (letv (HS.new S (.cells 1 [[(Sl.hv Sl.nil)]] true)) fun p42 =>
 (letv (HS.new p42 (.cells 1 [[(.str [])]] true)) fun p43 =>
 (Option.bind (HS.sets p43 (HA.cell0 p42.next) [(.str ([] : List UInt8))]) fun p44 =>
 (letv (HS.new p44 (.cells 1 [[(.int .i64 0)]] true)) fun p45 =>
 (Option.bind (HS.sets p45 (HA.cell0 p44.next) [(.int .i64 0)]) fun p46 =>
 (Option.bind (D (Hd.set H (HS.next p46 + 1) fun vs T =>
 (Option.bind (HS.lp T (HS.next p46 + 1)) fun u92 =>
 (Option.bind (args1 vs) fun ar90 =>
 (Option.bind (dP ar90) fun p91 =>
 (J3 D H k (HS.next p46 + 1) y3 y4 (some (HA.cell0 S.next)) (some (HA.cell0 p42.next)) (some (HA.cell0 p44.next)) p91 T))))) y7 [.fn (.yield (HS.next p46 + 1)) [] []] (HS.new (HS.new p46 .defer) (.loop .ready none))) fun p93 =>
 (Option.bind (HS.finish p93.2 (HS.next p46 + 1)) fun p94 =>
 (Option.bind (pcode p94.1) fun n95 =>
 (if n95 = 0 then
 (letv (HS.new p94.2 (.cells 1 [[(.int .i64 0)]] true)) fun p97 =>
 (Option.bind (HS.sets p97 (HA.cell0 p94.2.next) [(.int .i64 0)]) fun p98 =>
 (Option.bind (D (Hd.set H (HS.next p98 + 1) fun vs T =>
 (Option.bind (HS.lp T (HS.next p98 + 1)) fun u129 =>
 (Option.bind (args1 vs) fun ar127 =>
 (Option.bind (dP ar127) fun p128 =>
 (J6 D H k (HS.next p98 + 1) y4 (some (HA.cell0 S.next)) (some (HA.cell0 p94.2.next)) p128 T))))) y8 [.fn (.yield (HS.next p98 + 1)) [] []] (HS.new (HS.new p98 .defer) (.loop .ready none))) fun p130 =>
 (Option.bind (HS.finish p130.2 (HS.next p98 + 1)) fun p131 =>
 (Option.bind (pcode p131.1) fun n132 =>
 (if n132 = 0 then
 (Option.bind (HS.ldI p131.2 .i64 (HA.cell0 p94.2.next)) fun p134 =>
 (Option.bind (HS.ldSl p131.2 (HA.cell0 S.next)) fun p135 =>
 (if p134 = (Sl.len p135 : Int) then
 (Option.bind (HS.ldI p131.2 .i64 (HA.cell0 p44.next)) fun p137 =>
 (Option.bind (rooms_Rooms_Len.f y5 p131.2) fun p138 =>
 (Option.bind (HS.ldI p138.2 .i64 (HA.cell0 p44.next)) fun p139 =>
 (if p139 = p137 then
 (Option.bind (y4) fun p141 =>
 (Option.bind (HS.sets p138.2 p141 [(.bool (decide (p137 = p138.1)))]) fun p142 =>
 (Option.bind (HS.leave p142 (HS.next p98 :: (HS.next p46 :: ds))) fun p143 =>
 (Option.bind (y4) fun p144 =>
 (Option.bind (HS.ldB p143 p144) fun p145 =>
 some (p145,p143)))))) else none)))) else
 (Option.bind (y4) fun p146 =>
 (Option.bind (HS.sets p131.2 p146 [(.bool false)]) fun p147 =>
 (Option.bind (HS.leave p147 (HS.next p98 :: (HS.next p46 :: ds))) fun p148 =>
 (Option.bind (y4) fun p149 =>
 (Option.bind (HS.ldB p148 p149) fun p150 =>
 some (p150,p148))))))))) else
 (if n132 = 1 then
 (Option.bind (HS.leave p131.2 (HS.next p98 :: (HS.next p46 :: ds))) fun p152 =>
 (Option.bind (y4) fun p153 =>
 (Option.bind (HS.ldB p152 p153) fun p154 =>
 some (p154,p152)))) else
 none))))))) else
 (if n95 = 1 then
 (Option.bind (HS.leave p94.2 (HS.next p46 :: ds)) fun p156 =>
 (Option.bind (y4) fun p157 =>
 (Option.bind (HS.ldB p156 p157) fun p158 =>
 some (p158,p156)))) else
 none)))))))))))
theorem J2_snd (hD : DSound Tryz.prog base W0 D) (hH : HSound Tryz.prog base W0 β0 H)  {y3 : (Option HA)} {y4 : (Option HA)} {y5 : (Option HA)} {y7 : HV} {y8 : HV} {y69 : Bool} {ds : List Nat} {S : HS} {p : (Bool) × HS} (h : J2 D H k y3 y4 y5 y7 y8 y69 ds S = some p) : HRun Tryz.prog base W0 β0 4 none [.code c44,.code c49] ⟨[Ga,Gb,Gc,(.ptr y3),(.ptr y4),(.ptr y5),Gg,y7,y8,Gj,Gk,Gl,Gm,Gn,Go,Gp,Gq,Gr,Gs,Gt,Gu,Gv,Gw,Gx,Gy,Gz,Ka,Kb,Kc,Kd,Ke,Kf,Kg,Kh,Ki,Kj,Kk,Kl,Km,Kn,Ko,Kp,Kq,Kr,Ks,Kt,Ku,Kv,Kw,Kx,Ky,Kz,Ma,Mb,Mc,Md,Me,Mf,Mg,Mh,Mi,Mj,Mk,Ml,Mm,Mn,Mo,Mp,Mq,(.bool y69),Ms,Mt,Mu,Mv,Mw,Mx,My,Mz,Na,Nb,Nc,Nd,Ne,Nf,Ng,Nh,Ni,Nj,Nk,Nl,Nm,Nn,No,Np,Nq,Nr,Ns,Nt,Nu,Nv,Nw,Nx,Ny,Nz,Qa,Qb,Qc,Qd,Qe,Qf,Qg,Qh,Qi,Qj,Qk,Ql,Qm,Qn,Qo,Qp,Qq,Qr,Qs,Qt,Qu,Qv,Qw,Qx,Qy,Qz,Ua,Ub,Uc],ds⟩ S (fun v S1 => v = (.bool p.1) ∧ S1 = p.2) := by
 unfold J2 at h
 rcases ifc h with ⟨hc36,h⟩ | ⟨hc36,h⟩
 ·obtain ⟨p37,hp37,h⟩ := bindo h
  obtain ⟨p38,hp38,h⟩ := bindo h
  refine q_cond_t rfl (.tmp rfl) hc36 (qQ rfl (qR rfl rfl (qN rfl (ok_store_s (v := (.bool false)) · sz4 (.tmp rfl) hp37 (.bool _) rfl hp38) (rE ?_))))
  try dsimp only [w0,w1,w2,w3]
  obtain ⟨p39,hp39,h⟩ := bindo h
  obtain ⟨p40,hp40,h⟩ := bindo h
  obtain ⟨p41,hp41,h⟩ := bindo h
  cases h
  exact q_ret rfl at_.at_ hp39 (resL1 rfl (.cell rfl hp40 sc4 (ldB_out hp41))) ⟨rfl,rfl⟩
 ·obtain ⟨p42,hp42,h⟩ := leto h
  refine q_cond_f rfl (.tmp rfl) (bfalse hc36) (q_skipc rfl (qQ rfl (qR rfl rfl (qS 9 rfl (ok_alloc_e · zi57 zr57 (by decide) rfl hp42) (rE ?_)))))
  try dsimp only [w0,w1,w2,w3]
  obtain ⟨p43,hp43,h⟩ := leto h
  obtain ⟨p44,hp44,h⟩ := bindo h
  refine qQ rfl (qR rfl rfl (qS 10 rfl (ok_alloc_e · zi9 zr9 (by decide) rfl hp43) (qN rfl (ok_store_s (v := (.str ([] : List UInt8))) · sz9 (.tmp rfl) rfl (.str _) rfl hp44) (rE ?_))))
  try dsimp only [w0,w1,w2,w3]
  obtain ⟨p45,hp45,h⟩ := leto h
  obtain ⟨p46,hp46,h⟩ := bindo h
  refine qQ rfl (qR rfl rfl (qS 11 rfl (ok_alloc_e · zi3 zr3 (by decide) rfl hp45) (qN rfl (ok_store_s (v := (.int .i64 0)) · sz3 (.tmp rfl) rfl (.int _ _) rfl hp46) (rE ?_))))
  try dsimp only [w0,w1,w2,w3]
  refine qQ rfl (qQ rfl (qR rfl rfl (qS 70 rfl (oM · rfl) (rE ?_))))
  try dsimp only [w0,w1,w2,w3]
  obtain ⟨p93,hp93,h⟩ := bindo h
  obtain ⟨p94,hp94,h⟩ := bindo h
  obtain ⟨n95,hn95,h⟩ := bindo h
  refine q_block rfl ?_
  refine q_range (D := D) (H := H) rfl (.tmp rfl) hD hH hp93 hp94 ?_ ?_
  ·intro β1 hle hLA vs T u T' hr
   obtain ⟨u92,hu92,hr⟩ := bindo hr
   obtain ⟨ar90,har90,hr⟩ := bindo hr
   obtain ⟨p91,hp91,hr⟩ := bindo hr
   rw [args1_out har90]
   refine q_yield2 hLA hu92 rfl rfl ?_
   rw [dP_out hp91]
   simp only [HAct.params,List.set_cons_zero,List.set_cons_succ]
   exact J3_snd hD (hH.up hle) hr
  ·rcases ifc h with ⟨hc96,h⟩ | ⟨hc96,h⟩
   ·rw [pcode0 hn95 hc96]
    simp only [jumped_none,jumped_some]
    obtain ⟨p97,hp97,h⟩ := leto h
    obtain ⟨p98,hp98,h⟩ := bindo h
    refine hr_inBlock (qQ rfl (qR rfl rfl (qS 15 rfl (ok_alloc_e · zi3 zr3 (by decide) rfl hp97) (qN rfl (ok_store_s (v := (.int .i64 0)) · sz3 (.tmp rfl) rfl (.int _ _) rfl hp98) (rE ?_)))))
    try dsimp only [w0,w1,w2,w3]
    refine qQ rfl (qQ rfl (qR rfl rfl (qS 106 rfl (oM · rfl) (rE ?_))))
    try dsimp only [w0,w1,w2,w3]
    obtain ⟨p130,hp130,h⟩ := bindo h
    obtain ⟨p131,hp131,h⟩ := bindo h
    obtain ⟨n132,hn132,h⟩ := bindo h
    refine q_block rfl ?_
    refine q_range (D := D) (H := H) rfl (.tmp rfl) hD hH hp130 hp131 ?_ ?_
    ·intro β1 hle hLA vs T u T' hr
     obtain ⟨u129,hu129,hr⟩ := bindo hr
     obtain ⟨ar127,har127,hr⟩ := bindo hr
     obtain ⟨p128,hp128,hr⟩ := bindo hr
     rw [args1_out har127]
     refine q_yield2 hLA hu129 rfl rfl ?_
     rw [dP_out hp128]
     simp only [HAct.params,List.set_cons_zero,List.set_cons_succ]
     exact J6_snd hD (hH.up hle) hr
    ·rcases ifc h with ⟨hc133,h⟩ | ⟨hc133,h⟩
     ·rw [pcode0 hn132 hc133]
      simp only [jumped_none,jumped_some]
      refine hr_inBlock (qQ rfl ?_)
      refine x_start (cls := [1,1,0,0,0,3,0,2,0,0,2]) (rk := [0,1,2,3,4,5,6,7,8,9,10]) rfl (by kernel_rfl) ?_
      obtain ⟨p134,hp134,h⟩ := bindo h
      refine xr 123 [15] rfl (oL · sc3 rfl rfl (ldI_out hp134)) ?_
      obtain ⟨p135,hp135,h⟩ := bindo h
      refine xr 124 [9] rfl (oL · sc57 rfl rfl (ldSl_out hp135)) ?_
      refine xf 125 [124] rfl (ok_len_sl (q := Sl.a p135) (n := Sl.len p135) (z := Sl.cap p135) · rfl tu57 (.tmp rfl)) ?_
      refine xf 126 [123,125] rfl (oB · rfl rfl rfl) ?_
      try dsimp only [w0,w1,w2,w3]
      refine xf 127 [126] rfl (oM · rfl) ?_
      rcases ifc h with ⟨hc136,h⟩ | ⟨hc136,h⟩
      ·obtain ⟨p137,hp137,h⟩ := bindo h
       refine x_late (r_op_g (dst := some 128) (t := 127) (ts := [11,127]) rfl (by intro _ _ h; cases h) (by kernel_rfl) rfl rfl (decide_eq_true hc136) (fun _ ho => ok_load_s ho sc3 (.tmp rfl) rfl (ldI_out hp137))) rfl trivial ?_
       refine xfg 129 127 [5,127] rfl (decide_eq_true hc136) (oM · rfl) ?_
       obtain ⟨p138,hp138,h⟩ := bindo h
       obtain ⟨p139,hp139,h⟩ := bindo h
       obtain ⟨hg140,h⟩ := gd h
       refine x_goE (e_call_g (dst := some 130) (t := 127) (ts := [129,127]) rfl (by kernel_rfl) rfl rfl (decide_eq_true hc136) (.func _) (.cons (.tmp rfl) Evs.nil) (HInv.static rooms_Rooms_Len.at_ rooms_Rooms_Len.body (rooms_Rooms_Len.snd  hp138))) rfl ⟨.inr (l_op_g (dst := some 128) (t := 127) (ts := [11,127]) rfl (by intro _ _ h; cases h) (by kernel_rfl) rfl rfl (decide_eq_true hc136) (fun _ ho => ok_load_s ho sc3 (.tmp rfl) rfl (ldI_out (hp139.trans (congrArg some hg140))))),trivial⟩ ?_
       try dsimp only [w0,w1,w2,w3]
       refine xfg 131 127 [128,130,127] rfl (decide_eq_true hc136) (oB · rfl rfl rfl) ?_
       refine xf 132 [127,131] rfl (ok_pick_tt · (.tmp rfl) (decide_eq_true hc136) (.tmp rfl)) ?_
       obtain ⟨p141,hp141,h⟩ := bindo h
       obtain ⟨p142,hp142,h⟩ := bindo h
       refine x_goE (e_op (dst := none) (ts := [4,132]) rfl (by intro _ _ h; cases h) (by kernel_rfl) (fun _ ho => ok_store_s (v := (.bool (decide (p137 = p138.1)))) ho sz4 (.tmp rfl) hp141 (.tmp rfl) rfl hp142)) rfl ⟨.inl (by kernel_rfl),trivial⟩ ?_
       refine x_rest rfl ?_
       refine rE ?_
       try dsimp only [w0,w1,w2,w3]
       obtain ⟨p143,hp143,h⟩ := bindo h
       obtain ⟨p144,hp144,h⟩ := bindo h
       obtain ⟨p145,hp145,h⟩ := bindo h
       cases h
       exact q_ret rfl at_.at_ hp143 (resL1 rfl (.cell rfl hp144 sc4 (ldB_out hp145))) ⟨rfl,rfl⟩
      ·refine x_late (r_skip (dst := some 128) (t := 127) (ts := [11,127]) rfl (by kernel_rfl) rfl rfl (decide_eq_false hc136)) rfl trivial ?_
       refine xfs 129 127 [5,127] rfl (decide_eq_false hc136) ?_
       refine zes 130 127 [129,127] rfl (decide_eq_false hc136) ⟨.inr (l_skip (dst := some 128) (t := 127) (ts := [11,127]) rfl (by kernel_rfl) rfl rfl (decide_eq_false hc136)),trivial⟩ ?_
       try dsimp only [w0,w1,w2,w3]
       refine xfs 131 127 [128,130,127] rfl (decide_eq_false hc136) ?_
       refine xf 132 [127,131] rfl (ok_pick_ff · (.tmp rfl) (decide_eq_false hc136) (.bool _)) ?_
       obtain ⟨p146,hp146,h⟩ := bindo h
       obtain ⟨p147,hp147,h⟩ := bindo h
       refine x_goE (e_op (dst := none) (ts := [4,132]) rfl (by intro _ _ h; cases h) (by kernel_rfl) (fun _ ho => ok_store_s (v := (.bool false)) ho sz4 (.tmp rfl) hp146 (.tmp rfl) rfl hp147)) rfl ⟨.inl (by kernel_rfl),trivial⟩ ?_
       refine x_rest rfl ?_
       refine rE ?_
       try dsimp only [w0,w1,w2,w3]
       obtain ⟨p148,hp148,h⟩ := bindo h
       obtain ⟨p149,hp149,h⟩ := bindo h
       obtain ⟨p150,hp150,h⟩ := bindo h
       cases h
       exact q_ret rfl at_.at_ hp148 (resL1 rfl (.cell rfl hp149 sc4 (ldB_out hp150))) ⟨rfl,rfl⟩
     ·rcases ifc h with ⟨hc151,h⟩ | ⟨hc151,h⟩
      ·rw [pcode1 hn132 hc151]
       simp only [jumped_none,jumped_some]
       obtain ⟨p152,hp152,h⟩ := bindo h
       obtain ⟨p153,hp153,h⟩ := bindo h
       obtain ⟨p154,hp154,h⟩ := bindo h
       cases h
       exact q_ret rfl at_.at_ hp152 (resL1 rfl (.cell rfl hp153 sc4 (ldB_out hp154))) ⟨rfl,rfl⟩
      ·cases h
   ·rcases ifc h with ⟨hc155,h⟩ | ⟨hc155,h⟩
    ·rw [pcode1 hn95 hc155]
     simp only [jumped_none,jumped_some]
     obtain ⟨p156,hp156,h⟩ := bindo h
     obtain ⟨p157,hp157,h⟩ := bindo h
     obtain ⟨p158,hp158,h⟩ := bindo h
     cases h
     exact q_ret rfl at_.at_ hp156 (resL1 rfl (.cell rfl hp157 sc4 (ldB_out hp158))) ⟨rfl,rfl⟩
    ·cases h
def L0 (D : Dp) (H : Hd) (k : Nat) : Nat → Sl → (Option HA) → (Option HA) → (Option HA) → Int → List Nat → HS → Option ((Bool) × HS)
 | 0,_,_,_,_,_,_,_ => none
 | n + 1,y0,y3,y4,y5,y6,ds,S =>
  (if y6 < (Sl.len y0 : Int) then
  (Option.bind (HS.idx S y0 y6 3) fun p15 =>
  (Option.bind (HS.ldI S .i64 (HA.fld p15 0)) fun p16 =>
  (if p16 = 1 then
  (Option.bind (HS.idx S y0 y6 3) fun p18 =>
  (Option.bind (HS.ldI S .i64 (HA.fld p18 1)) fun p19 =>
  (Option.bind (HS.idx S y0 y6 3) fun p20 =>
  (Option.bind (HS.ldS S (HA.fld p20 2)) fun p21 =>
  (Option.bind (rooms_Rooms_Part.f D H k y5 p19 p21 S) fun p22 =>
  J1 D H k (L0 D H k n) y0 y3 y4 y5 y6 ds p22.2))))) else
  (Option.bind (HS.idx S y0 y6 3) fun p23 =>
  (Option.bind (HS.ldI S .i64 (HA.fld p23 1)) fun p24 =>
  (Option.bind (HS.idx S y0 y6 3) fun p25 =>
  (Option.bind (HS.ldS S (HA.fld p25 2)) fun p26 =>
  (Option.bind (rooms_Rooms_Join.f D H k y5 p24 p26 S) fun p27 =>
  J1 D H k (L0 D H k n) y0 y3 y4 y5 y6 ds p27.2)))))))) else
  (Option.bind (rooms_Rooms_All.f y5 S) fun p28 =>
  (Option.bind (y3) fun p29 =>
  (Option.bind (HS.ldI p28.2 .i64 p29) fun p30 =>
  (Option.bind (HS.ldI S .i64 p29) fun p31 =>
  (if p31 = p30 then
  (Option.bind (rooms_Rooms_Of.f D H k y5 p30 p28.2) fun p33 =>
  (Option.bind (HV.isNilFn p28.1) fun p34 =>
  (if (p34) = true then
  J2 D H k y3 y4 y5 p28.1 p33.1 true ds p33.2 else
  (Option.bind (HV.isNilFn p33.1) fun p159 =>
  J2 D H k y3 y4 y5 p28.1 p33.1 (p159) ds p33.2)))) else none))))))
theorem L0_snd (hD : DSound Tryz.prog base W0 D) (hH : HSound Tryz.prog base W0 β0 H)  : ∀ {n : Nat} ⦃y0 : Sl⦄ ⦃y3 : (Option HA)⦄ ⦃y4 : (Option HA)⦄ ⦃y5 : (Option HA)⦄ ⦃y6 : Int⦄ ⦃ds : List Nat⦄ ⦃S : HS⦄ ⦃p : (Bool) × HS⦄ ⦃Gb Gc Gh Gi Gj Gk Gl Gm Gn Go Gp Gq Gr Gs Gt Gu Gv Gw Gx Gy Gz Ka Kb Kc Kd Ke Kf Kg Kh Ki Kj Kk Kl Km Kn Ko Kp Kq Kr Ks Kt Ku Kv Kw Kx Ky Kz Ma Mb Mc Md Me Mf Mg Mh Mi Mj Mk Ml Mm Mn Mo Mp Mq Mr Ms Mt Mu Mv Mw Mx My Mz Na Nb Nc Nd Ne Nf Ng Nh Ni Nj Nk Nl Nm Nn No Np Nq Nr Ns Nt Nu Nv Nw Nx Ny Nz Qa Qb Qc Qd Qe Qf Qg Qh Qi Qj Qk Ql Qm Qn Qo Qp Qq Qr Qs Qt Qu Qv Qw Qx Qy Qz Ua Ub Uc : HV⦄,L0 D H k n y0 y3 y4 y5 y6 ds S = some p → HRun Tryz.prog base W0 β0 4 none [.inLoop c25,.inBlock 0,.code c39] ⟨[(Sl.hv y0),Gb,Gc,(.ptr y3),(.ptr y4),(.ptr y5),(.int .i64 y6),Gh,Gi,Gj,Gk,Gl,Gm,Gn,Go,Gp,Gq,Gr,Gs,Gt,Gu,Gv,Gw,Gx,Gy,Gz,Ka,Kb,Kc,Kd,Ke,Kf,Kg,Kh,Ki,Kj,Kk,Kl,Km,Kn,Ko,Kp,Kq,Kr,Ks,Kt,Ku,Kv,Kw,Kx,Ky,Kz,Ma,Mb,Mc,Md,Me,Mf,Mg,Mh,Mi,Mj,Mk,Ml,Mm,Mn,Mo,Mp,Mq,Mr,Ms,Mt,Mu,Mv,Mw,Mx,My,Mz,Na,Nb,Nc,Nd,Ne,Nf,Ng,Nh,Ni,Nj,Nk,Nl,Nm,Nn,No,Np,Nq,Nr,Ns,Nt,Nu,Nv,Nw,Nx,Ny,Nz,Qa,Qb,Qc,Qd,Qe,Qf,Qg,Qh,Qi,Qj,Qk,Ql,Qm,Qn,Qo,Qp,Qq,Qr,Qs,Qt,Qu,Qv,Qw,Qx,Qy,Qz,Ua,Ub,Uc],ds⟩ S (fun v S1 => v = (.bool p.1) ∧ S1 = p.2) := by
 intro n
 induction n with
 | zero => intro _ _ _ _ _ _ _ _ _ _ _ _ _ _ _ _ _ _ _ _ _ _ _ _ _ _ _ _ _ _ _ _ _ _ _ _ _ _ _ _ _ _ _ _ _ _ _ _ _ _ _ _ _ _ _ _ _ _ _ _ _ _ _ _ _ _ _ _ _ _ _ _ _ _ _ _ _ _ _ _ _ _ _ _ _ _ _ _ _ _ _ _ _ _ _ _ _ _ _ _ _ _ _ _ _ _ _ _ _ _ _ _ _ _ _ _ _ _ _ _ _ _ _ _ _ _ _ _ _ _ _ _ _ _ _ _ h; cases h
 | succ n ih =>
  intro y0 y3 y4 y5 y6 ds S p Gb Gc Gh Gi Gj Gk Gl Gm Gn Go Gp Gq Gr Gs Gt Gu Gv Gw Gx Gy Gz Ka Kb Kc Kd Ke Kf Kg Kh Ki Kj Kk Kl Km Kn Ko Kp Kq Kr Ks Kt Ku Kv Kw Kx Ky Kz Ma Mb Mc Md Me Mf Mg Mh Mi Mj Mk Ml Mm Mn Mo Mp Mq Mr Ms Mt Mu Mv Mw Mx My Mz Na Nb Nc Nd Ne Nf Ng Nh Ni Nj Nk Nl Nm Nn No Np Nq Nr Ns Nt Nu Nv Nw Nx Ny Nz Qa Qb Qc Qd Qe Qf Qg Qh Qi Qj Qk Ql Qm Qn Qo Qp Qq Qr Qs Qt Qu Qv Qw Qx Qy Qz Ua Ub Uc h
  simp only [L0] at h
  refine hr_inLoop (qQ rfl (qQ rfl (qR rfl rfl (qS 23 rfl (oM · rfl) (qS 24 rfl (oM · rfl) (qS 25 rfl (ok_len_sl (q := Sl.a y0) (n := Sl.len y0) (z := Sl.cap y0) · rfl tu22 (.tmp rfl)) (qS 26 rfl (oB · rfl rfl rfl) (rE ?_))))))))
  try dsimp only [w0,w1,w2,w3]
  rcases ifc h with ⟨hc14,h⟩ | ⟨hc14,h⟩
  ·obtain ⟨p15,hp15,h⟩ := bindo h
   refine q_cond_t rfl (.tmp rfl) (decide_eq_true hc14) (q_skipc rfl (qQ rfl (q_block rfl (qQ rfl (qR rfl rfl (qS 29 rfl (oM · rfl) (qS 30 rfl (oM · rfl) (qS 31 rfl (oX (s := y0) · tu22 sz34 rfl rfl hp15) (qS 32 rfl (oF · fi34_0 (by decide) rfl rfl) ?_)))))))))
   try dsimp only [w0,w1,w2,w3]
   obtain ⟨p16,hp16,h⟩ := bindo h
   refine qS 33 rfl (oL · sc3 rfl rfl (ldI_out hp16)) (qS 34 rfl (oC · rfl rfl) (rE ?_))
   try dsimp only [w0,w1,w2,w3]
   rcases ifc h with ⟨hc17,h⟩ | ⟨hc17,h⟩
   ·refine q_cond_t rfl (.tmp rfl) (decide_eq_true hc17) ?_
    refine x_start (cls := [0,0,0,1,0,1,0,0,1,0,1,2]) (rk := [0,1,2,3,4,5,6,7,8,9,10,11]) rfl (by kernel_rfl) ?_
    refine yf 35 [5] rfl (oM · rfl) ?_
    refine yf 36 [0] rfl (oM · rfl) ?_
    refine yf 37 [6] rfl (oM · rfl) ?_
    obtain ⟨p18,hp18,h⟩ := bindo h
    refine yr 38 [36,37] rfl (oX (s := y0) · tu22 sz34 rfl rfl hp18) ?_
    try dsimp only [w0,w1,w2,w3]
    refine yf 39 [38] rfl (oF · fi34_1 (by decide) rfl rfl) ?_
    obtain ⟨p19,hp19,h⟩ := bindo h
    refine yr 40 [39] rfl (oL · sc3 rfl rfl (ldI_out hp19)) ?_
    refine yf 41 [0] rfl (oM · rfl) ?_
    refine yf 42 [6] rfl (oM · rfl) ?_
    try dsimp only [w0,w1,w2,w3]
    obtain ⟨p20,hp20,h⟩ := bindo h
    refine yr 43 [41,42] rfl (oX (s := y0) · tu22 sz34 rfl rfl hp20) ?_
    refine yf 44 [43] rfl (oF · fi34_2 (by decide) rfl rfl) ?_
    obtain ⟨p21,hp21,h⟩ := bindo h
    refine yr 45 [44] rfl (oL · sc9 rfl rfl (ldS_out hp21)) ?_
    obtain ⟨p22,hp22,h⟩ := bindo h
    refine x_go (e_call (dst := some 46) (ts := [35,40,45]) rfl (by kernel_rfl) (.func _) (.cons (.tmp rfl) (.cons (.tmp rfl) (.cons (.tmp rfl) Evs.nil))) (HInv.static rooms_Rooms_Part.at_ rooms_Rooms_Part.body (rooms_Rooms_Part.snd hD hH hp22))) rfl ?_
    refine x_rest rfl ?_
    refine rE ?_
    try dsimp only [w0,w1,w2,w3]
    refine hr_inBlock ?_
    try dsimp only [w0,w1,w2,w3]
    exact J1_snd hD hH ih h
   ·refine q_cond_f rfl (.tmp rfl) (decide_eq_false hc17) ?_
    refine x_start (cls := [0,0,0,1,0,1,0,0,1,0,1,2]) (rk := [0,1,2,3,4,5,6,7,8,9,10,11]) rfl (by kernel_rfl) ?_
    refine yf 47 [5] rfl (oM · rfl) ?_
    refine yf 48 [0] rfl (oM · rfl) ?_
    refine yf 49 [6] rfl (oM · rfl) ?_
    obtain ⟨p23,hp23,h⟩ := bindo h
    refine yr 50 [48,49] rfl (oX (s := y0) · tu22 sz34 rfl rfl hp23) ?_
    try dsimp only [w0,w1,w2,w3]
    refine yf 51 [50] rfl (oF · fi34_1 (by decide) rfl rfl) ?_
    obtain ⟨p24,hp24,h⟩ := bindo h
    refine yr 52 [51] rfl (oL · sc3 rfl rfl (ldI_out hp24)) ?_
    refine yf 53 [0] rfl (oM · rfl) ?_
    refine yf 54 [6] rfl (oM · rfl) ?_
    try dsimp only [w0,w1,w2,w3]
    obtain ⟨p25,hp25,h⟩ := bindo h
    refine yr 55 [53,54] rfl (oX (s := y0) · tu22 sz34 rfl rfl hp25) ?_
    refine yf 56 [55] rfl (oF · fi34_2 (by decide) rfl rfl) ?_
    obtain ⟨p26,hp26,h⟩ := bindo h
    refine yr 57 [56] rfl (oL · sc9 rfl rfl (ldS_out hp26)) ?_
    obtain ⟨p27,hp27,h⟩ := bindo h
    refine x_go (e_call (dst := some 58) (ts := [47,52,57]) rfl (by kernel_rfl) (.func _) (.cons (.tmp rfl) (.cons (.tmp rfl) (.cons (.tmp rfl) Evs.nil))) (HInv.static rooms_Rooms_Join.at_ rooms_Rooms_Join.body (rooms_Rooms_Join.snd hD hH hp27))) rfl ?_
    refine x_rest rfl ?_
    refine rE ?_
    try dsimp only [w0,w1,w2,w3]
    refine hr_inBlock ?_
    try dsimp only [w0,w1,w2,w3]
    exact J1_snd hD hH ih h
  ·refine q_cond_f rfl (.tmp rfl) (decide_eq_false hc14) (q_exit rfl rfl (qQ rfl ?_))
   refine x_start (cls := [0,2,0,3,2,0,0]) (rk := [0,1,2,3,4,5,6]) rfl (by kernel_rfl) ?_
   refine xf 59 [5] rfl (oM · rfl) ?_
   obtain ⟨p28,hp28,h⟩ := bindo h
   refine x_goE (e_call (dst := some 60) (ts := [59]) rfl (by kernel_rfl) (.func _) (.cons (.tmp rfl) Evs.nil) (HInv.static rooms_Rooms_All.at_ rooms_Rooms_All.body (rooms_Rooms_All.snd  hp28))) rfl trivial ?_
   refine xf 61 [5] rfl (oM · rfl) ?_
   obtain ⟨p29,hp29,h⟩ := bindo h
   obtain ⟨p30,hp30,h⟩ := bindo h
   obtain ⟨p31,hp31,h⟩ := bindo h
   obtain ⟨hg32,h⟩ := gd h
   refine x_late (r_op (dst := some 62) (ts := [3]) rfl (by intro _ _ h; cases h) (by kernel_rfl) (fun _ ho => ok_load_s ho sc3 (.tmp rfl) hp29 (ldI_out hp30))) rfl ⟨.inr (l_op (dst := some 62) (ts := [3]) rfl (by intro _ _ h; cases h) (by kernel_rfl) (fun _ ho => ok_load_s ho sc3 (.tmp rfl) hp29 (ldI_out (hp31.trans (congrArg some hg32))))),trivial⟩ ?_
   try dsimp only [w0,w1,w2,w3]
   obtain ⟨p33,hp33,h⟩ := bindo h
   refine x_goE (e_call (dst := some 63) (ts := [61,62]) rfl (by kernel_rfl) (.func _) (.cons (.tmp rfl) (.cons (.tmp rfl) Evs.nil)) (HInv.static rooms_Rooms_Of.at_ rooms_Rooms_Of.body (rooms_Rooms_Of.snd hD hH hp33))) rfl ⟨.inl (by kernel_rfl),trivial⟩ ?_
   refine xf 7 [60] rfl (oA · rfl) ?_
   refine xf 8 [63] rfl (oA · rfl) ?_
   refine x_rest rfl ?_
   refine rE ?_
   try dsimp only [w0,w1,w2,w3]
   obtain ⟨p34,hp34,h⟩ := bindo h
   refine qQ rfl (qQ rfl (qR rfl rfl (qS 64 rfl (oM · rfl) (qS 65 rfl (ok_nil_fn · tu54 (.tmp rfl) hp34 (.inl ⟨rfl,rfl⟩)) (qS 66 rfl (oM · rfl) ?_)))))
   rcases ifc h with ⟨hc35,h⟩ | ⟨hc35,h⟩
   ·refine q_skip (dst := some 67) (t := 66) rfl rfl rfl hc35 ?_
    try dsimp only [w0,w1,w2,w3]
    refine q_skip (dst := some 68) (t := 66) rfl rfl rfl hc35 (qS 69 rfl (ok_pick_tt · (.tmp rfl) hc35 (.bool _)) (rE ?_))
    try dsimp only [w0,w1,w2,w3]
    exact J2_snd hD hH h
   ·refine qG 66 67 rfl (bfalse hc35) (oM · rfl) ?_
    try dsimp only [w0,w1,w2,w3]
    obtain ⟨p159,hp159,h⟩ := bindo h
    refine qG 66 68 rfl (bfalse hc35) (ok_nil_fn · tu54 (.tmp rfl) hp159 (.inl ⟨rfl,rfl⟩)) (qS 69 rfl (ok_pick_ff · (.tmp rfl) (bfalse hc35) (.tmp rfl)) (rE ?_))
    try dsimp only [w0,w1,w2,w3]
    exact J2_snd hD hH h
def f (D : Dp) (H : Hd) (k : Nat) (x0 : Sl) (x1 : Int) (S : HS) : Option ((Bool) × HS) :=
 (letv (HS.new S (.cells 1 [[(.int .i64 x1)]] true)) fun p1 =>
 (letv (HS.new p1 (.cells 1 [[(.bool false)]] true)) fun p2 =>
 (Option.bind (aw.f p2) fun p3 =>
 (if (!p3.1) = true then
 (Option.bind (HS.sets p3.2 (HA.cell0 p1.next) [(.bool false)]) fun p5 =>
 (Option.bind (HS.leave p5 []) fun p6 =>
 (Option.bind (HS.ldB p6 (HA.cell0 p1.next)) fun p7 =>
 some (p7,p6)))) else
 (Option.bind (rollcalllaw20_great.f k x0 p3.2) fun p8 =>
 (if p8.1 = true then
 (Option.bind (HS.sets p8.2 (HA.cell0 p1.next) [(.bool true)]) fun p10 =>
 (Option.bind (HS.leave p10 []) fun p11 =>
 (Option.bind (HS.ldB p11 (HA.cell0 p1.next)) fun p12 =>
 some (p12,p11)))) else
 (Option.bind (rooms_New.f [] [] [] [] 0 0 50 50 3 0 0 0 0 0 0 p8.2) fun p13 =>
 L0 D H k k x0 (some (HA.cell0 S.next)) (some (HA.cell0 p1.next)) p13.1 0 [] p13.2)))))))
theorem snd {x0 : Sl} {x1 : Int} {S : HS} (hD : DSound Tryz.prog base W0 D) (hH : HSound Tryz.prog base W0 β0 H)  {p : (Bool) × HS} (h : f D H k x0 x1 S = some p) : HCall Tryz.prog base W0 β0 4 [(Sl.hv x0),(.int .i64 x1)] S (fun v S1 => v = (.bool p.1) ∧ S1 = p.2) := by
 unfold f at h
 refine HCall.of_run at_.at_ body ?_
 show HRun Tryz.prog base W0 β0 4 none [.code c0] ⟨[(Sl.hv x0),(.int .i64 x1),τ,τ,τ,τ,τ,τ,τ,τ,τ,τ,τ,τ,τ,τ,τ,τ,τ,τ,τ,τ,τ,τ,τ,τ,τ,τ,τ,τ,τ,τ,τ,τ,τ,τ,τ,τ,τ,τ,τ,τ,τ,τ,τ,τ,τ,τ,τ,τ,τ,τ,τ,τ,τ,τ,τ,τ,τ,τ,τ,τ,τ,τ,τ,τ,τ,τ,τ,τ,τ,τ,τ,τ,τ,τ,τ,τ,τ,τ,τ,τ,τ,τ,τ,τ,τ,τ,τ,τ,τ,τ,τ,τ,τ,τ,τ,τ,τ,τ,τ,τ,τ,τ,τ,τ,τ,τ,τ,τ,τ,τ,τ,τ,τ,τ,τ,τ,τ,τ,τ,τ,τ,τ,τ,τ,τ,τ,τ,τ,τ,τ,τ],[]⟩ S _
 obtain ⟨p1,hp1,h⟩ := leto h
 obtain ⟨p2,hp2,h⟩ := leto h
 refine qQ rfl (qR rfl rfl (qS 3 rfl (ok_box_e · (.tmp rfl) (Nat.zero_lt_succ _) rfl hp1) (qS 4 rfl (ok_alloc_e · zi4 zr4 (by decide) rfl hp2) (rE ?_))))
 try dsimp only [w0,w1,w2,w3]
 obtain ⟨p3,hp3,h⟩ := bindo h
 refine qQ rfl (qQ rfl (qR rfl rfl (q_call (dst := some 17) rfl (.func _) Evs.nil (HInv.static rollcalllaw20_awake.at_ rollcalllaw20_awake.body (aw.snd hp3)) ?_)))
 rintro _ _ ⟨rfl,rfl⟩
 refine qS 18 rfl (ok_not · (.tmp rfl)) (rE ?_)
 try dsimp only [w0,w1,w2,w3]
 rcases ifc h with ⟨hc4,h⟩ | ⟨hc4,h⟩
 ·obtain ⟨p5,hp5,h⟩ := bindo h
  refine q_cond_t rfl (.tmp rfl) hc4 (qQ rfl (qR rfl rfl (qN rfl (ok_store_s (v := (.bool false)) · sz4 (.tmp rfl) rfl (.bool _) rfl hp5) (rE ?_))))
  try dsimp only [w0,w1,w2,w3]
  obtain ⟨p6,hp6,h⟩ := bindo h
  obtain ⟨p7,hp7,h⟩ := bindo h
  cases h
  exact q_ret rfl at_.at_ hp6 (resL1 rfl (.cell rfl rfl sc4 (ldB_out hp7))) ⟨rfl,rfl⟩
 ·obtain ⟨p8,hp8,h⟩ := bindo h
  refine q_cond_f rfl (.tmp rfl) (bfalse hc4) (q_skipc rfl (qQ rfl (qQ rfl (qR rfl rfl (qS 19 rfl (oM · rfl) (q_call (dst := some 20) rfl (.func _) (.cons (.tmp rfl) Evs.nil) (HInv.static rollcalllaw20_great.at_ rollcalllaw20_great.body (rollcalllaw20_great.snd  hp8)) ?_))))))
  rintro _ _ ⟨rfl,rfl⟩
  refine rE ?_
  try dsimp only [w0,w1,w2,w3]
  rcases ifc h with ⟨hc9,h⟩ | ⟨hc9,h⟩
  ·obtain ⟨p10,hp10,h⟩ := bindo h
   refine q_cond_t rfl (.tmp rfl) hc9 (qQ rfl (qR rfl rfl (qN rfl (ok_store_s (v := (.bool true)) · sz4 (.tmp rfl) rfl (.bool _) rfl hp10) (rE ?_))))
   try dsimp only [w0,w1,w2,w3]
   obtain ⟨p11,hp11,h⟩ := bindo h
   obtain ⟨p12,hp12,h⟩ := bindo h
   cases h
   exact q_ret rfl at_.at_ hp11 (resL1 rfl (.cell rfl rfl sc4 (ldB_out hp12))) ⟨rfl,rfl⟩
  ·obtain ⟨p13,hp13,h⟩ := bindo h
   refine q_cond_f rfl (.tmp rfl) (bfalse hc9) (q_skipc rfl (qQ rfl (qR rfl rfl (qS 21 rfl (ok_build (is := [7,6,8]) (xs := [(.const (.int .i64 50)),(.const (.int .i64 50)),(.const (.int .i64 3))]) (r := [(.str []),(.str []),(.str []),(.str []),(.int .i64 0),(.int .i64 0),(.int .i64 50),(.int .i64 50),(.int .i64 3),(.int .i64 0),(.int .i64 0),(.int .i64 0),(.int .i64 0),(.int .i64 0),(.int .i64 0)]) st28 · rfl rfl (.cons (.int _ _) (.cons (.int _ _) (.cons (.int _ _) Evs.nil))) rfl) (q_call (dst := some 22) rfl (.func _) (.cons (.tmp rfl) Evs.nil) (HInv.static rooms_New.at_ rooms_New.body (rooms_New.snd  hp13)) ?_)))))
   rintro _ _ ⟨rfl,rfl⟩
   refine qS 5 rfl (oA · rfl) (rE ?_)
   try dsimp only [w0,w1,w2,w3]
   refine qQ rfl (qQ rfl (qR rfl rfl (qS 6 rfl (ok_assign · (.int _ _)) (rE ?_))))
   try dsimp only [w0,w1,w2,w3]
   refine q_block rfl (q_loop rfl ?_)
   try dsimp only [w0,w1,w2,w3]
   exact L0_snd hD hH h
end
end rollcalllaw20_RoomsOrder
end
end Go.Proofs.YtbmfomkfmpppiaaGreat.X
namespace Go.Proofs.YtbmfomkfmpppiaaGreat.X
open Go.Proofs.YtbmfomkfmpppiaaGreat.HL
set_option linter.unusedVariables false
theorem vec_keep {n z : Nat} {T T' : HS} {s : Sl} {rows : List (List HV)} (h : Vec n T z s rows) (he : ∀ q,s.a = some q → T'.heap q.1 = T.heap q.1) (hn : T.next ≤ T'.next) : Vec n T' z s rows := by
 cases h with
 | nil => exact .nil
 | open_ g1 g2 g3 => exact .open_ ((he _ rfl).trans g1) g2 (Nat.lt_of_lt_of_le g3 hn)
 | capped g1 g2 g3 g4 g5 g6 => exact .capped ((he _ rfl).trans g1) g2 (Nat.lt_of_lt_of_le g3 hn) g4 g5 g6
theorem rows_keep {S S' : HS} {z : Nat} {s : Sl} {rows : List (List HV)} (h : S.rows s z = some rows) (hk : ∀ q,s.a = some q → S'.heap q.1 = S.heap q.1) : S'.rows s z = some rows := by
 unfold HS.rows at h ⊢
 cases ha : s.a with
 | none => rw [ha] at h; exact h
 | some q =>
  obtain ⟨id,off⟩ := q
  rw [ha] at h
  simp only at h ⊢
  rw [hk _ ha]
  exact h
def OV (S : HS) (z : Nat) (s : Sl) (rows : List (List HV)) : Prop := (s.a = none ∧ s.len = 0 ∧ rows = []) ∨ ∃ id,s = ⟨some (id,0),rows.length,none⟩ ∧ S.heap id = .cells z rows true ∧ id < S.next
theorem OV.keep {S S' : HS} {z : Nat} {s : Sl} {rows : List (List HV)} (h : OV S z s rows) (he : ∀ q,s.a = some q → S'.heap q.1 = S.heap q.1) (hn : S.next ≤ S'.next) : OV S' z s rows := by
 rcases h with h | ⟨id,rfl,h2,h3⟩
 ·exact .inl h
 ·exact .inr ⟨id,rfl,(he _ rfl).trans h2,Nat.lt_of_lt_of_le h3 hn⟩
theorem OV.rows {S : HS} {z : Nat} {s : Sl} {rows : List (List HV)} (h : OV S z s rows) : S.rows s z = some rows := by
 rcases h with ⟨h1,h2,rfl⟩ | ⟨id,rfl,h2,h3⟩
 ·unfold HS.rows; rw [h1]; simp [h2]
 ·simp [HS.rows,h2]
theorem OV.len {S : HS} {z : Nat} {s : Sl} {rows : List (List HV)} (h : OV S z s rows) : s.len = rows.length := (rows_len h.rows).symm
theorem OV.lt {S : HS} {z : Nat} {s : Sl} {rows : List (List HV)} (h : OV S z s rows) {q : Nat × Nat} (hq : s.a = some q) : q.1 < S.next := by
 rcases h with ⟨h1,_,_⟩ | ⟨id,rfl,h2,h3⟩
 ·rw [h1] at hq; cases hq
 ·cases hq; exact h3
theorem ins_ov {S : HS} {z : Nat} {s : Sl} {rows : List (List HV)} {row : List HV} (h : OV S z s rows) {i : Nat} (hi : i ≤ rows.length) (hb : rows.length + 1 ≤ 2147483648) :
  ∃ s' S',(S.lit [row] z).2.ins s (i : Int) (S.lit [row] z).1 z = some (s',S') ∧ OV S' z s' (rows.take i ++ [row] ++ rows.drop i) ∧ S.next ≤ S'.next ∧ (∀ id,id < S.next → (∀ q,s.a = some q → q.1 ≠ id) → S'.heap id = S.heap id) ∧ ∀ q,s'.a = some q → S.next ≤ q.1 := by
 have hr : (S.lit [row] z).2.rows (S.lit [row] z).1 z = some [row] := by simp [HS.lit,HS.rows,new_here]
 unfold HS.ins
 rw [hr,Option.bind_some]
 rcases h with ⟨h1,h2,rfl⟩ | ⟨id,rfl,h2,h3⟩
 ·obtain rfl : i = 0 := by simpa using hi
  rw [if_neg (by rw [h2]; simp),h1]
  simp only
  rw [if_pos ⟨h2,rfl⟩]
  refine ⟨_,_,rfl,.inr ⟨_,rfl,new_here _ _,Nat.lt_succ_self _⟩,?_,fun id hid _ => ?_,fun q hq => ?_⟩
  ·simp only [HS.lit,new_next]; omega
  ·rw [new_old _ (by simp only [HS.lit,new_next]; omega)]; exact new_old _ hid
  ·cases hq; simp only [HS.lit,new_next]; omega
 ·rw [if_neg (by simp; omega)]
  have hid : (S.lit [row] z).2.heap id = .cells z rows true := (new_old _ h3).trans h2
  simp only [hid,show (S.lit [row] z).1.a = some (S.next,0) from rfl]
  have hc : z = z ∧ (0 : Nat) = 0 ∧ (none : Option Nat) = none ∧ rows.length = rows.length ∧ (0 : Int) ≤ (i : Int) ∧ (i : Int) ≤ (rows.length : Int) ∧ S.next ≠ id ∧ S.next < (S.lit [row] z).2.next ∧ (S.lit [row] z).2.mrk S.next ≠ 1 ∧ ((S.lit [row] z).2.heap S.next).own = true := by
   refine ⟨rfl,rfl,rfl,rfl,by omega,by omega,by omega,Nat.lt_succ_self _,?_,?_⟩
   ·simp [HS.lit,HS.new,HS.newM]
   ·show ((S.new _).heap S.next).own = true
    rw [new_here]; rfl
  rw [if_pos (by simpa using hc)]
  have hn : (S.lit [row] z).2.next = S.next + 1 := rfl
  refine ⟨_,_,rfl,.inr ⟨S.next + 2,?_,?_,?_⟩,?_,fun x hx hq => ?_,fun q hq => ?_⟩
  ·simp only [hn]; simp; omega
  ·simp [HS.swap,hn]
  ·show S.next + 2 < (S.lit [row] z).2.next + 2; rw [hn]; omega
  ·show S.next ≤ (S.lit [row] z).2.next + 2; rw [hn]; omega
  ·have hxi : x ≠ id := fun e => hq _ rfl e.symm
   show (if x = (S.lit [row] z).2.next + 1 then _ else if x = (S.lit [row] z).2.next ∨ x = id then HObj.dead else (S.lit [row] z).2.heap x) = S.heap x
   rw [if_neg (by omega),if_neg (by omega)]
   exact new_old _ hx
  ·cases hq; simp only [hn]; omega
theorem del_ov {S : HS} {z : Nat} {s : Sl} {rows : List (List HV)} (h : OV S z s rows) {i : Nat} (hi : i < rows.length) (hb : rows.length ≤ 2147483648) :
  ∃ s' S',S.del s (i : Int) ((i + 1 : Nat) : Int) z = some (s',S') ∧ OV S' z s' (rows.eraseIdx i) ∧ S.next ≤ S'.next ∧ (∀ id,id < S.next → (∀ q,s.a = some q → q.1 ≠ id) → S'.heap id = S.heap id) ∧ ∀ q,s'.a = some q → S.next ≤ q.1 := by
 rcases h with ⟨h1,h2,rfl⟩ | ⟨id,rfl,h2,h3⟩
 ·simp at hi
 ·unfold HS.del
  simp only [h2]
  rw [if_pos (by refine ⟨trivial,trivial,trivial,trivial,?_,?_,?_,?_⟩ <;> omega)]
  refine ⟨_,_,rfl,.inr ⟨S.next,?_,?_,Nat.lt_succ_self _⟩,Nat.le_succ _,fun x hx hq => ?_,fun q hq => by cases hq; exact Nat.le_refl _⟩
  ·simp only [Int.toNat_natCast,List.length_eraseIdx,if_pos hi]
   congr 1; omega
  ·show (if S.next = S.next then HObj.cells z (rows.take (i : Int).toNat ++ rows.drop ((i + 1 : Nat) : Int).toNat) true else _) = _
   rw [if_pos rfl,Int.toNat_natCast,Int.toNat_natCast,List.eraseIdx_eq_take_drop_succ]
  ·show (if x = S.next then _ else if x = id then HObj.dead else S.heap x) = S.heap x
   rw [if_neg (by omega),if_neg (fun e => hq _ rfl e.symm)]
theorem mid_eq {i j : Nat} (h : i + j ≤ 1000000) : w64 (Int.fdiv (IntKind.wrap .u64 (w64 ((i : Int) + (j : Int)))) (2 ^ (min (Int.toNat 1) (IntKind.bits .u64)))) = (((i + j) / 2 : Nat) : Int) := by
 have e1 : w64 ((i : Int) + (j : Int)) = ((i + j : Nat) : Int) := by rw [w64_id (by omega) (by omega)]; omega
 have e2 : IntKind.wrap .u64 ((i + j : Nat) : Int) = ((i + j : Nat) : Int) := by
  simp only [IntKind.wrap,IntKind.signed,IntKind.bits]
  simp
  omega
 have e3 : (2 : Int) ^ (min (Int.toNat 1) (IntKind.bits .u64)) = 2 := by decide
 rw [e1,e2,e3]
 have e4 : Int.fdiv ((i + j : Nat) : Int) 2 = (((i + j) / 2 : Nat) : Int) := by
  rw [Int.fdiv_eq_ediv_of_nonneg _ (by omega)]; omega
 rw [e4,w64_id (by omega) (by omega)]
theorem OV.none {S : HS} {z : Nat} {s : Sl} {rows : List (List HV)} (h : OV S z s rows) (ha : s.a = none) : rows = [] := by
 rcases h with ⟨_,_,h⟩ | ⟨id,rfl,_,_⟩
 ·exact h
 ·cases ha
theorem OV.rd {S : HS} {z : Nat} {s : Sl} {rows : List (List HV)} (h : OV S z s rows) : Rd S.next S z s rows := ⟨h.rows,fun q hq => h.lt hq⟩
theorem get_at {S : HS} {s : Sl} {rows : List (List HV)} (h : S.rows s 1 = some rows) {i : Nat} (hi : i < rows.length) {v : HV} (hv : rows[i] = [v]) : ∃ ad,S.idx s (i : Int) 1 = some ad ∧ S.get ad = some v := by
 obtain ⟨ad,h1,h2,h3⟩ := rows_idx h (i := i) hi
 refine ⟨ad,h1,?_⟩
 have := row_get (j := 0) (v := v) h3 h2 (by simp [hv])
 obtain ⟨a1,a2,a3⟩ := ad
 simp only at h2
 subst h2
 exact this
theorem row_ldM {S : HS} {ad : HA} {r : List HV} {m : Option Nat} {j : Nat} (h : S.row ad.id ad.i = some r) (hj : ad.j = 0) (hv : r[j]? = some (.map m)) : S.ldM (HA.fld ad j) = some m := by
 rw [HS.ldM,row_get h hj hv]; rfl
def Own (p : Nat) (s : Sl) (id : Nat) : Prop := id = p ∨ ∃ q,s.a = some q ∧ q.1 = id
structure Only (q : Nat) (s s' : Sl) (S S' : HS) : Prop where
 le : S.next ≤ S'.next
 eq : ∀ id,id < S.next → ¬ Own q s id → S'.heap id = S.heap id
 own : ∀ id,Own q s' id → Own q s id ∨ S.next ≤ id
theorem Only.refl (q : Nat) (s : Sl) (S : HS) : Only q s s S S := ⟨Nat.le_refl _,fun _ _ _ => rfl,fun _ h => .inl h⟩
theorem Only.trans {q : Nat} {s s' s'' : Sl} {S S' S'' : HS} (h : Only q s s' S S') (k : Only q s' s'' S' S'') : Only q s s'' S S'' :=
 ⟨Nat.le_trans h.le k.le,fun id h1 h2 => (k.eq id (Nat.lt_of_lt_of_le h1 h.le) (fun ho => (h.own id ho).elim h2 (fun h3 => by omega))).trans (h.eq id h1 h2),fun id ho => by
  rcases k.own id ho with h1 | h1
  ·exact h.own id h1
  ·have := h.le; exact .inr (by omega)⟩
theorem Only.of_fr {q : Nat} {s : Sl} {S S' : HS} (h : Fr S.next S S') : Only q s s S S' := ⟨h.le,fun id h1 _ => h.eq id h1,fun _ ho => .inl ho⟩
structure Tld (H : Hd) (l : Nat) (vs : List (List HV)) (I : Nat → (Nat → Prop) → HS → Prop) (Stop : (Nat → Prop) → HS → Prop) : Prop where
 keep : ∀ i O S S',I i O S → (∀ id,O id → S'.heap id = S.heap id) → S.next ≤ S'.next → I i O S'
 keepS : ∀ O S S',Stop O S → (∀ id,O id → S'.heap id = S.heap id) → S.next ≤ S'.next → Stop O S'
 lt : ∀ i O S,I i O S → ∀ id,O id → id < S.next
 ltS : ∀ O S,Stop O S → ∀ id,O id → id < S.next
 step : ∀ i (hi : i < vs.length) O S,I i O S → ∃ b S' O',Option.bind (H l) (fun r => r vs[i] S) = some (.bool b,S') ∧ S.next ≤ S'.next ∧ (∀ id,id < S.next → ¬ O id → S'.heap id = S.heap id) ∧ (∀ id,O' id → O id ∨ S.next ≤ id) ∧ (b = true → I (i + 1) O' S') ∧ (b = false → Stop O' S')
def Tells (D : Dp) (fv : HV) (vs : List (List HV)) (K : Nat → Prop) (B : HS) : Prop :=
 ∀ (H : Hd) (l : Nat) (I : Nat → (Nat → Prop) → HS → Prop) (Stop : (Nat → Prop) → HS → Prop),Tld H l vs I Stop → ∀ (O : Nat → Prop) (S : HS),I 0 O S → (∀ id,K id → S.heap id = B.heap id ∧ ¬ O id ∧ id < S.next) →
  ∃ S' O',D H fv [.fn (.yield l) [] []] S = some (.tup [],S') ∧ S.next ≤ S'.next ∧ (∀ id,id < S.next → ¬ O id → S'.heap id = S.heap id) ∧ (∀ id,O' id → O id ∨ S.next ≤ id) ∧ (I vs.length O' S' ∨ Stop O' S')
structure Chg (O O' : Nat → Prop) (S S' : HS) : Prop where
 le : S.next ≤ S'.next
 eq : ∀ id,id < S.next → ¬ O id → S'.heap id = S.heap id
 own : ∀ id,O' id → O id ∨ S.next ≤ id
theorem Chg.refl (O : Nat → Prop) (S : HS) : Chg O O S S := ⟨Nat.le_refl _,fun _ _ _ => rfl,fun _ h => .inl h⟩
theorem Chg.trans {O O' O'' : Nat → Prop} {S S' S'' : HS} (h : Chg O O' S S') (k : Chg O' O'' S' S'') : Chg O O'' S S'' :=
 ⟨Nat.le_trans h.le k.le,fun id h1 h2 => (k.eq id (Nat.lt_of_lt_of_le h1 h.le) (fun ho => (h.own id ho).elim h2 (fun h3 => by omega))).trans (h.eq id h1 h2),fun id ho => by
  rcases k.own id ho with h1 | h1
  ·exact h.own id h1
  ·have := h.le; exact .inr (by omega)⟩
theorem Chg.of_fr {O : Nat → Prop} {S S' : HS} (h : Fr S.next S S') : Chg O O S S' := ⟨h.le,fun id h1 _ => h.eq id h1,fun _ ho => .inl ho⟩
theorem range_tells {D : Dp} {H : Hd} {fv : HV} {vs : List (List HV)} {K : Nat → Prop} {S : HS} {hd : List HV → HS → Option (HV × HS)} {bd : Nat → HS → Option (HV × HS)}
  (hT : Tells D fv vs K S) (hK : ∀ id,K id → id < S.next) (I : Nat → (Nat → Prop) → HS → Prop) (Q : Code → (Nat → Prop) → HS → Prop)
  (keepI : ∀ i O T T',I i O T → (∀ id,O id → T'.heap id = T.heap id) → T.next ≤ T'.next → I i O T')
  (keepQ : ∀ c O T T',Q c O T → (∀ id,O id → T'.heap id = T.heap id) → T.next ≤ T'.next → Q c O T')
  (O : Nat → Prop) (hO : ∀ id,O id → id < S.next) (hI : I 0 O S) (hOK : ∀ id,O id → ¬ K id)
  (hdef : ∀ i (hi : i < vs.length) T,T.heap (S.next + 1) = .loop .ready none → hd vs[i] T = bd i (T.put (S.next + 1) (.loop .busy none)))
  (step : ∀ i (hi : i < vs.length) O1 U,I i O1 U → S.next + 2 ≤ U.next → U.heap (S.next + 1) = .loop .busy none → ¬ O1 (S.next + 1) → (∀ id,O1 id → id < U.next) →
   ∃ U' O2 j,bd i U = U'.endr (S.next + 1) j ∧ Chg O1 O2 U U' ∧ (∀ id,O2 id → id < U'.next) ∧ (j = none → I (i + 1) O2 U') ∧ ∀ c,j = some c → Q c O2 U') :
  ∃ T st S' O',D (Hd.set H (S.next + 1) hd) fv [.fn (.yield (S.next + 1)) [] []] ((S.new .defer).new (.loop .ready none)) = some (.tup [],T) ∧ T.finish (S.next + 1) = some (st,S') ∧ S'.heap S.next = .defer ∧ S.next + 2 ≤ S'.next ∧
   Chg O O' S S' ∧ (∀ id,O' id → id ≠ S.next ∧ id ≠ S.next + 1 ∧ id < S'.next) ∧ (st = none → I vs.length O' S') ∧ (∀ c,st = some c → Q c O' S') := by
 have f2 : Fr S.next S ((S.new .defer).new (.loop .ready none)) := (Fr.new (Nat.le_refl _) _).trans (Fr.new (by rw [new_next]; omega) _)
 have n2 : ((S.new .defer).new (.loop .ready none)).next = S.next + 2 := rfl
 have d2 : ((S.new .defer).new (.loop .ready none)).heap S.next = .defer := by rw [new_old _ (by rw [new_next]; omega)]; exact new_here _ _
 have l2 : ((S.new .defer).new (.loop .ready none)).heap (S.next + 1) = .loop .ready none := new_here (S.new .defer) _
 generalize (S.new .defer).new (.loop .ready none) = S0 at f2 n2 d2 l2 ⊢
 let J : Nat → (Nat → Prop) → HS → Prop := fun i OO T => ∃ O1,(∀ id,OO id ↔ (O1 id ∨ id = S.next ∨ id = S.next + 1)) ∧ (∀ id,O1 id → id ≠ S.next ∧ id ≠ S.next + 1 ∧ id < T.next ∧ (O id ∨ S.next + 2 ≤ id)) ∧ I i O1 T ∧ T.heap S.next = .defer ∧ T.heap (S.next + 1) = .loop .ready none ∧ S.next + 2 ≤ T.next
 let St : (Nat → Prop) → HS → Prop := fun OO T => ∃ O1 c,(∀ id,OO id ↔ (O1 id ∨ id = S.next ∨ id = S.next + 1)) ∧ (∀ id,O1 id → id ≠ S.next ∧ id ≠ S.next + 1 ∧ id < T.next ∧ (O id ∨ S.next + 2 ≤ id)) ∧ Q c O1 T ∧ T.heap S.next = .defer ∧ T.heap (S.next + 1) = .loop .done (some c) ∧ S.next + 2 ≤ T.next
 have hO' : ∀ id,O id → id ≠ S.next ∧ id ≠ S.next + 1 ∧ id < S0.next := fun id h => by have := hO id h; omega
 obtain ⟨T,O',e,t1,t2,t3,t4⟩ := hT (Hd.set H (S.next + 1) hd) (S.next + 1) J St (by
   refine ⟨fun i OO T T' h hk hn => ?_,fun OO T T' h hk hn => ?_,fun i OO T h id ho => ?_,fun OO T h id ho => ?_,fun i hi OO T h => ?_⟩
   ·obtain ⟨O1,a1,a2,a3,a4,a5,a6⟩ := h
    exact ⟨O1,a1,fun id ho => ⟨(a2 id ho).1,(a2 id ho).2.1,by have := (a2 id ho).2.2.1; omega,(a2 id ho).2.2.2⟩,keepI _ _ _ _ a3 (fun id ho => hk id ((a1 id).2 (.inl ho))) hn,(hk _ ((a1 _).2 (.inr (.inl rfl)))).trans a4,(hk _ ((a1 _).2 (.inr (.inr rfl)))).trans a5,by omega⟩
   ·obtain ⟨O1,c,a1,a2,a3,a4,a5,a6⟩ := h
    exact ⟨O1,c,a1,fun id ho => ⟨(a2 id ho).1,(a2 id ho).2.1,by have := (a2 id ho).2.2.1; omega,(a2 id ho).2.2.2⟩,keepQ _ _ _ _ a3 (fun id ho => hk id ((a1 id).2 (.inl ho))) hn,(hk _ ((a1 _).2 (.inr (.inl rfl)))).trans a4,(hk _ ((a1 _).2 (.inr (.inr rfl)))).trans a5,by omega⟩
   ·obtain ⟨O1,a1,a2,a3,a4,a5,a6⟩ := h
    rcases (a1 id).1 ho with g | g | g
    ·exact (a2 id g).2.2.1
    ·omega
    ·omega
   ·obtain ⟨O1,c,a1,a2,a3,a4,a5,a6⟩ := h
    rcases (a1 id).1 ho with g | g | g
    ·exact (a2 id g).2.2.1
    ·omega
    ·omega
   ·obtain ⟨O1,a1,a2,a3,a4,a5,a6⟩ := h
    simp only [Hd.set,if_true,Option.bind_some]
    rw [hdef i hi T a5]
    have bk : ∀ id,id ≠ S.next + 1 → (T.put (S.next + 1) (.loop .busy none)).heap id = T.heap id := fun id h => put_other _ h
    have bn : (T.put (S.next + 1) (.loop .busy none)).next = T.next := rfl
    have bl : (T.put (S.next + 1) (.loop .busy none)).heap (S.next + 1) = .loop .busy none := put_here _ _ _
    generalize T.put (S.next + 1) (.loop .busy none) = U at bk bn bl ⊢
    obtain ⟨U',O2,j,e1,c1,l1,p1,p2⟩ := step i hi O1 U (keepI _ _ _ _ a3 (fun id ho => bk id (a2 id ho).2.1) (by omega)) (by omega) bl (fun h => (a2 _ h).2.1 rfl) (fun id h => by have := (a2 id h).2.2.1; omega)
    have ul : U'.heap (S.next + 1) = .loop .busy none := (c1.eq _ (by omega) (fun h => (a2 _ h).2.1 rfl)).trans bl
    have ud : U'.heap S.next = .defer := (c1.eq _ (by omega) (fun h => (a2 _ h).1 rfl)).trans ((bk _ (by omega)).trans a4)
    have hle := c1.le
    have h2 : ∀ id,O2 id → id ≠ S.next ∧ id ≠ S.next + 1 ∧ id < U'.next ∧ (O id ∨ S.next + 2 ≤ id) := fun id h => by
     rcases c1.own id h with g | g
     ·exact ⟨(a2 id g).1,(a2 id g).2.1,l1 id h,(a2 id g).2.2.2⟩
     ·exact ⟨by omega,by omega,l1 id h,.inr (by omega)⟩
    rw [e1,endr_at j ul]
    refine ⟨j.isNone,_,fun id => O2 id ∨ id = S.next ∨ id = S.next + 1,rfl,by rw [put_next]; omega,fun id g1 g2 => ?_,fun id h => ?_,fun hj => ?_,fun hj => ?_⟩
    ·have g3 : ¬ O1 id := fun h => g2 ((a1 id).2 (.inl h))
     have g4 : id ≠ S.next + 1 := fun h => g2 ((a1 id).2 (.inr (.inr h)))
     rw [put_other _ g4,c1.eq id (by omega) g3,bk id g4]
    ·rcases h with h | h
     ·rcases c1.own id h with g | g
      ·exact .inl ((a1 id).2 (.inl g))
      ·exact .inr (by omega)
     ·exact .inl ((a1 id).2 (.inr h))
    ·have hj' : j = none := by simpa using hj
     subst hj'
     exact ⟨O2,fun _ => Iff.rfl,h2,keepI _ _ _ _ (p1 rfl) (fun id h => put_other _ (h2 id h).2.1) (Nat.le_refl _),by rw [put_other _ (by omega)]; exact ud,put_here _ _ _,by rw [put_next]; omega⟩
    ·cases j with
     | none => cases hj
     | some c => exact ⟨O2,c,fun _ => Iff.rfl,h2,keepQ _ _ _ _ (p2 c rfl) (fun id h => put_other _ (h2 id h).2.1) (Nat.le_refl _),by rw [put_other _ (by omega)]; exact ud,put_here _ _ _,by rw [put_next]; omega⟩)
  (fun id => O id ∨ id = S.next ∨ id = S.next + 1) S0 ⟨O,fun _ => Iff.rfl,fun id h => ⟨(hO' id h).1,(hO' id h).2.1,(hO' id h).2.2,.inl h⟩,keepI _ _ _ _ hI (fun id h => f2.eq id (hO id h)) f2.le,d2,l2,by omega⟩ (fun id hid => ⟨f2.eq id (hK id hid),fun ho => by
   have := hK id hid
   rcases ho with g | g | g
   ·exact hOK id g hid
   ·omega
   ·omega,by have := hK id hid; omega⟩)
 have hfr : ∀ id,id < S.next → ¬ O id → T.heap id = S.heap id := fun id h1 h2 => (t2 id (by omega) (fun ho => by
  rcases ho with g | g | g
  ·exact h2 g
  ·omega
  ·omega)).trans (f2.eq id h1)
 rcases t4 with h | h
 ·obtain ⟨O1,a1,a2,a3,a4,a5,a6⟩ := h
  refine ⟨T,none,T.put (S.next + 1) (.loop .exhausted none),O1,e,by simp [HS.finish,a5],by rw [put_other _ (by omega)]; exact a4,a6,⟨by rw [put_next]; omega,fun id h1 h2 => by rw [put_other _ (by omega)]; exact hfr id h1 h2,fun id h => (a2 id h).2.2.2.elim .inl (fun g => .inr (by omega))⟩,fun id h => ⟨(a2 id h).1,(a2 id h).2.1,(a2 id h).2.2.1⟩,fun _ => keepI _ _ _ _ a3 (fun id h => put_other _ (a2 id h).2.1) (Nat.le_refl _),fun c hc => by cases hc⟩
 ·obtain ⟨O1,c,a1,a2,a3,a4,a5,a6⟩ := h
  refine ⟨T,some c,T.put (S.next + 1) (.loop .exhausted (some c)),O1,e,by simp [HS.finish,a5],by rw [put_other _ (by omega)]; exact a4,a6,⟨by rw [put_next]; omega,fun id h1 h2 => by rw [put_other _ (by omega)]; exact hfr id h1 h2,fun id h => (a2 id h).2.2.2.elim .inl (fun g => .inr (by omega))⟩,fun id h => ⟨(a2 id h).1,(a2 id h).2.1,(a2 id h).2.2.1⟩,fun hc => (by cases hc),fun c' hc => ?_⟩
  cases hc
  exact keepQ _ _ _ _ a3 (fun id h => put_other _ (a2 id h).2.1) (Nat.le_refl _)
end Go.Proofs.YtbmfomkfmpppiaaGreat.X
namespace Go.Proofs.YtbmfomkfmpppiaaGreat.X
open Go.Proofs.YtbmfomkfmpppiaaGreat.HL
set_option linter.unusedVariables false
namespace KI
abbrev Ky := Int
def kv (k : Ky) : HV := .int .i64 k
def klt (a b : Ky) : Bool := decide (a < b)
theorem klt_irrefl (a : Ky) : klt a a = false := by simp [klt]
theorem klt_trans {a b c : Ky} (h1 : klt a b = true) (h2 : klt b c = true) : klt a c = true := by simp only [klt,decide_eq_true_eq] at *; exact Int.lt_trans h1 h2
theorem klt_tri (a b : Ky) : klt a b = true ∨ a = b ∨ klt b a = true := by simp only [klt,decide_eq_true_eq]; exact Int.lt_trichotomy a b
def row1 (k : Ky) : List HV := [kv k]
theorem ldK_at {S : HS} {s : Sl} {xs : List Ky} (h : S.rows s 1 = some (xs.map row1)) {i : Nat} (hi : i < xs.length) : ∃ ad,S.idx s (i : Int) 1 = some ad ∧ S.ldI .i64 ad = some xs[i] := by
 obtain ⟨ad,h1,h2⟩ := get_at h (i := i) (v := kv xs[i]) (by simpa using hi) (by rw [List.getElem_map]; rfl)
 exact ⟨ad,h1,by rw [HS.ldI,h2]; simp [dI,kv]⟩
theorem less_spec (a b : Ky) : cmp_Less_int.f a b = some (klt a b) := by
 have h : ∀ x,cmp_isNaN_int.f x = some false := fun x => by simp [cmp_isNaN_int.f]
 rw [cmp_Less_int.f,h,Option.bind_some,if_neg (by simp),cmp_Less_int.J0,if_neg (by simp),cmp_Less_int.J1]
 rfl
def Srt (es : List Ky) : Prop := es.Pairwise fun a b => klt a b = true
theorem Srt.lt {es : List Ky} (h : Srt es) {i j : Nat} (hi : i < es.length) (hj : j < es.length) (hij : i < j) : klt es[i] es[j] = true := List.pairwise_iff_getElem.1 h i j hi hj hij
structure PosOf (es : List Ky) (t : Ky) (p : Nat) : Prop where
 le : p ≤ es.length
 lo : ∀ q (hq : q < es.length),q < p → klt es[q] t = true
 hi : ∀ q (hq : q < es.length),p ≤ q → klt es[q] t = false
theorem PosOf.gt {es : List Ky} {t : Ky} {p : Nat} (h : PosOf es t p) (hs : Srt es) (hf : t ∉ es) {q : Nat} (hq : q < es.length) (hpq : p ≤ q) : klt t es[q] = true := by
 have h1 := h.hi q hq hpq
 rcases klt_tri es[q] t with g | g | g
 ·rw [h1] at g; cases g
 ·exact absurd (g ▸ List.getElem_mem hq) hf
 ·exact g
theorem PosOf.here {es : List Ky} {t : Ky} {p : Nat} (h : PosOf es t p) (hs : Srt es) (hm : t ∈ es) : ∃ hp : p < es.length,es[p] = t := by
 obtain ⟨q,hq,he⟩ := List.getElem_of_mem hm
 have hqp : p ≤ q := by
  rcases Nat.lt_or_ge q p with g | g
  ·have := h.lo q hq g; rw [he,klt_irrefl] at this; cases this
  ·exact g
 have hp : p < es.length := by omega
 refine ⟨hp,?_⟩
 rcases Nat.eq_or_lt_of_le hqp with g | g
 ·subst g; exact he
 ·have h1 := hs.lt hp hq g
  rw [he] at h1
  rw [h.hi p hp (Nat.le_refl _)] at h1; cases h1
theorem ins_srt {es : List Ky} {t : Ky} {p : Nat} (h : PosOf es t p) (hs : Srt es) (hf : t ∉ es) : Srt (es.take p ++ [t] ++ es.drop p) := by
 unfold Srt
 rw [List.append_assoc,List.pairwise_append]
 refine ⟨List.Pairwise.sublist (List.take_sublist _ _) hs,?_,fun a ha b hb => ?_⟩
 ·rw [List.singleton_append,List.pairwise_cons]
  refine ⟨fun b hb => ?_,List.Pairwise.sublist (List.drop_sublist _ _) hs⟩
  obtain ⟨q,hq,rfl⟩ := List.getElem_of_mem hb
  rw [List.getElem_drop]
  exact h.gt hs hf _ (by omega)
 ·obtain ⟨q,hq,rfl⟩ := List.getElem_of_mem ha
  rw [List.length_take] at hq
  rw [List.getElem_take]
  have h1 := h.lo q (by omega) (by omega)
  rcases List.mem_append.1 hb with hb | hb
  ·simp only [List.mem_singleton] at hb
   subst hb; exact h1
  ·obtain ⟨q2,hq2,rfl⟩ := List.getElem_of_mem hb
   rw [List.getElem_drop]
   rw [List.length_drop] at hq2
   exact hs.lt (by omega) (by omega) (by omega)
theorem ins_mem {es : List Ky} {t : Ky} {p : Nat} (v : Ky) : v ∈ es.take p ++ [t] ++ es.drop p ↔ v ∈ es ∨ v = t := by
 simp only [List.mem_append,List.mem_singleton]
 constructor
 ·rintro ((h | h) | h)
  ·exact .inl (List.mem_of_mem_take h)
  ·exact .inr h
  ·exact .inl (List.mem_of_mem_drop h)
 ·rintro (h | h)
  ·rw [← List.take_append_drop p es,List.mem_append] at h
   rcases h with h | h
   ·exact .inl (.inl h)
   ·exact .inr h
  ·exact .inl (.inr h)
theorem erase_srt {es : List Ky} (hs : Srt es) (p : Nat) : Srt (es.eraseIdx p) := List.Pairwise.sublist (List.eraseIdx_sublist _ _) hs
theorem erase_mem {es : List Ky} (hs : Srt es) {p : Nat} (hp : p < es.length) (v : Ky) : v ∈ es.eraseIdx p ↔ v ∈ es ∧ v ≠ es[p] := by
 rw [List.mem_eraseIdx_iff_getElem]
 constructor
 ·rintro ⟨q,hq,hne,rfl⟩
  refine ⟨List.getElem_mem hq,fun he => ?_⟩
  rcases Nat.lt_or_ge q p with g | g
  ·have := hs.lt hq hp g; rw [he,klt_irrefl] at this; cases this
  ·have := hs.lt hp hq (by omega); rw [he,klt_irrefl] at this; cases this
 ·rintro ⟨hm,hne⟩
  obtain ⟨q,hq,rfl⟩ := List.getElem_of_mem hm
  exact ⟨q,hq,fun e => hne (by subst e; rfl),rfl⟩
theorem srt_ext : ∀ {a b : List Ky},Srt a → Srt b → (∀ v,v ∈ a ↔ v ∈ b) → a = b := by
 intro a
 induction a with
 | nil =>
  intro b _ _ h
  cases b with
  | nil => rfl
  | cons y b => exact absurd ((h y).2 (by simp)) (by simp)
 | cons x a ih =>
  intro b ha hb h
  cases b with
  | nil => exact absurd ((h x).1 (by simp)) (by simp)
  | cons y b =>
   have ha' := List.pairwise_cons.1 ha
   have hb' := List.pairwise_cons.1 hb
   have hxy : x = y := by
    rcases List.mem_cons.1 ((h x).1 (by simp)) with g | g
    ·exact g
    ·rcases List.mem_cons.1 ((h y).2 (by simp)) with g2 | g2
     ·exact g2.symm
     ·have h1 := hb'.1 x g
      have h2 := ha'.1 y g2
      have := klt_trans h1 h2
      rw [klt_irrefl] at this; cases this
   subst hxy
   congr 1
   refine ih ha'.2 hb'.2 fun v => ?_
   have h1 := h v
   simp only [List.mem_cons] at h1
   constructor
   ·intro hv
    rcases h1.1 (.inr hv) with g | g
    ·subst g; have := ha'.1 v hv; rw [klt_irrefl] at this; cases this
    ·exact g
   ·intro hv
    rcases h1.2 (.inr hv) with g | g
    ·subst g; have := hb'.1 v hv; rw [klt_irrefl] at this; cases this
    ·exact g
theorem bs_spec {k : Nat} {S : HS} {s : Sl} {es : List Ky} {t : Ky} (hk : 2000 ≤ k) (hs : Srt es) (hle : es.length ≤ 1000) (hr : S.rows s 1 = some (es.map row1)) :
  ∃ p : Nat,slices_BinarySearch_int_int.f k s t S = some (((p : Int),decide (t ∈ es)),S) ∧ PosOf es t p := by
 have hsl : (s.len : Int) = es.length := by rw [← rows_len hr]; simp
 have hloop : ∀ (n i j : Nat),j - i < n → i ≤ j → j ≤ es.length → (∀ q (hq : q < es.length),q < i → klt es[q] t = true) → (∀ q (hq : q < es.length),j ≤ q → klt es[q] t = false) →
   ∃ p : Nat,slices_BinarySearch_int_int.L0 k n s t (es.length : Int) (i : Int) (j : Int) S = some (((p : Int),decide (t ∈ es)),S) ∧ PosOf es t p := by
  intro n
  induction n with
  | zero => intro i j h; omega
  | succ n ih =>
   intro i j hf hij hj hlo hhi
   rw [slices_BinarySearch_int_int.L0]
   by_cases hlt : i < j
   ·rw [if_pos (by omega),mid_eq (by omega)]
    have hm : (i + j) / 2 < es.length := by omega
    obtain ⟨ad,a1,a2⟩ := ldK_at hr hm
    rw [a1,Option.bind_some,a2,Option.bind_some,less_spec,Option.bind_some]
    cases hc : klt es[(i + j) / 2] t with
    | true =>
     rw [if_pos rfl,w64_id (by omega) (by omega),show ((((i + j) / 2 : Nat) : Int) + 1) = (((i + j) / 2 + 1 : Nat) : Int) by simp]
     exact ih ((i + j) / 2 + 1) j (by omega) (by omega) hj (fun q hq hqi => by
      rcases Nat.lt_or_ge q ((i + j) / 2) with h | h
      ·exact klt_trans (hs.lt hq hm h) hc
      ·obtain rfl : q = (i + j) / 2 := by omega
       exact hc) hhi
    | false =>
     rw [if_neg (by simp)]
     exact ih i ((i + j) / 2) (by omega) (by omega) (by omega) hlo (fun q hq hqi => by
      rcases Nat.lt_or_ge ((i + j) / 2) q with h | h
      ·cases h2 : klt es[q] t with
       | false => rfl
       | true => have := klt_trans (hs.lt hm hq h) h2; rw [hc] at this; cases this
      ·obtain rfl : q = (i + j) / 2 := by omega
       exact hc)
   ·obtain rfl : i = j := by omega
    rw [if_neg (by omega)]
    have hp : PosOf es t i := ⟨hj,hlo,hhi⟩
    refine ⟨i,?_,hp⟩
    by_cases hend : i < es.length
    ·obtain ⟨ad,a1,a2⟩ := ldK_at hr hend
     rw [if_pos (by omega),a1,Option.bind_some,a2,Option.bind_some]
     by_cases he : es[i] = t
     ·rw [if_pos he,slices_BinarySearch_int_int.J1,if_pos (by simpa using hend),slices_BinarySearch_int_int.J2,decide_eq_true (he ▸ List.getElem_mem hend)]
     ·have hno : t ∉ es := fun hm => by
       obtain ⟨_,h2⟩ := hp.here hs hm
       exact he h2
      rw [if_neg he,Option.bind_some,a2,Option.bind_some,show slices_isNaN_int.f es[i] = some false by simp [slices_isNaN_int.f],Option.bind_some,if_neg (by simp),slices_BinarySearch_int_int.J3,if_pos (by simpa using hend),if_neg (by simpa using he),slices_BinarySearch_int_int.J1,if_pos (by simpa using hend),slices_BinarySearch_int_int.J2,decide_eq_false hno]
    ·have hno : t ∉ es := fun hm => by
      obtain ⟨h1,_⟩ := hp.here hs hm
      exact hend h1
     rw [if_neg (by omega),slices_BinarySearch_int_int.J2,decide_eq_false hno]
 rw [slices_BinarySearch_int_int.f,hsl]
 exact hloop k 0 es.length (by omega) (Nat.zero_le _) (Nat.le_refl _) (fun q hq h => by omega) (fun q hq h => by omega)
structure SI (p : Nat) (s : Sl) (xs : List Ky) (S : HS) : Prop where
 cell : S.heap p = .cells 1 [[s.hv]] true
 ov : OV S 1 s (xs.map row1)
 ne : ∀ q,s.a = some q → q.1 ≠ p
 hi : p < S.next
 srt : Srt xs
 cnt : xs.length ≤ 1000
theorem SI.lt {p : Nat} {s : Sl} {xs : List Ky} {S : HS} (h : SI p s xs S) {id : Nat} (ho : Own p s id) : id < S.next := by
 rcases ho with rfl | ⟨q,h1,rfl⟩
 ·exact h.hi
 ·exact h.ov.lt h1
theorem SI.keep {p : Nat} {s : Sl} {xs : List Ky} {S S' : HS} (h : SI p s xs S) (he : ∀ id,Own p s id → S'.heap id = S.heap id) (hn : S.next ≤ S'.next) : SI p s xs S' :=
 ⟨(he p (.inl rfl)).trans h.cell,h.ov.keep (fun q hq => he q.1 (.inr ⟨q,hq,rfl⟩)) hn,h.ne,Nat.lt_of_lt_of_le h.hi hn,h.srt,h.cnt⟩
theorem SI.fr {p : Nat} {s : Sl} {xs : List Ky} {S S' : HS} (h : SI p s xs S) (hf : Fr S.next S S') : SI p s xs S' := h.keep (fun id ho => hf.eq id (h.lt ho)) hf.le
theorem SI.ld {p : Nat} {s : Sl} {xs : List Ky} {S : HS} (h : SI p s xs S) : S.ldSl (HA.fld (HA.cell0 p) 0) = some s := row_ldSl (cell_row h.cell) rfl rfl
theorem SI.slen {p : Nat} {s : Sl} {xs : List Ky} {S : HS} (h : SI p s xs S) : (s.len : Int) = xs.length := by rw [h.ov.len]; simp
theorem set_put {p : Nat} {s s' : Sl} {S : HS} (h : S.heap p = .cells 1 [[s.hv]] true) : S.sets (HA.fld (HA.cell0 p) 0) [s'.hv] = some (S.put p (.cells 1 [[s'.hv]] true)) := (sets_row h rfl (by simp)).trans rfl
theorem ins_spec {p : Nat} {s : Sl} {xs : List Ky} {S : HS} (h : SI p s xs S) {t : Ky} {i : Nat} (hp : PosOf xs t i) (hno : t ∉ xs) (hroom : xs.length < 1000) :
  ∃ s' S' S1,slices_Insert_int_int_w.f s (i : Int) (S.lit [[.int .i64 t]] 1).1 (S.lit [[.int .i64 t]] 1).2 = some (s',S1) ∧ S1.sets (HA.fld (HA.cell0 p) 0) [s'.hv] = some S' ∧ SI p s' (xs.take i ++ [t] ++ xs.drop i) S' ∧ Only p s s' S S' := by
 obtain ⟨s',S1,a1,a2,a3,a4,a5⟩ := ins_ov (row := row1 t) h.ov (i := i) (by simpa using hp.le) (by simp; omega)
 have hcell : S1.heap p = .cells 1 [[s.hv]] true := by rw [a4 p h.hi h.ne]; exact h.cell
 have hne' : ∀ q,s'.a = some q → q.1 ≠ p := fun q hq => by have := a5 q hq; have := h.hi; omega
 refine ⟨s',_,S1,a1,set_put hcell,⟨put_here _ _ _,?_,hne',Nat.lt_of_lt_of_le h.hi a3,ins_srt hp h.srt hno,by simp; omega⟩,⟨by rw [put_next]; exact a3,fun id g1 g2 => ?_,fun id ho => ?_⟩⟩
 ·have hm : (xs.take i ++ [t] ++ xs.drop i).map row1 = (xs.map row1).take i ++ [row1 t] ++ (xs.map row1).drop i := by simp only [List.map_append,List.map_take,List.map_drop,List.map_cons,List.map_nil]
  rw [hm]
  exact a2.keep (fun q hq => put_other _ (hne' q hq)) (Nat.le_refl _)
 ·rw [put_other _ (fun e => g2 (.inl e))]
  exact a4 id g1 (fun q hq e => g2 (.inr ⟨q,hq,e⟩))
 ·rcases ho with g | ⟨q,g1,g2⟩
  ·exact .inl (.inl g)
  ·right; rw [← g2]; exact a5 q g1
theorem del_spec {p : Nat} {s : Sl} {xs : List Ky} {S : HS} (h : SI p s xs S) {i : Nat} (hi : i < xs.length) :
  ∃ s' S' S1,slices_Delete_int_int_w.f s (i : Int) ((i + 1 : Nat) : Int) S = some (s',S1) ∧ S1.sets (HA.fld (HA.cell0 p) 0) [s'.hv] = some S' ∧ SI p s' (xs.eraseIdx i) S' ∧ Only p s s' S S' := by
 have hcnt := h.cnt
 obtain ⟨s',S1,a1,a2,a3,a4,a5⟩ := del_ov h.ov (i := i) (by simpa using hi) (by simp; omega)
 have hcell : S1.heap p = .cells 1 [[s.hv]] true := by rw [a4 p h.hi h.ne]; exact h.cell
 have hne' : ∀ q,s'.a = some q → q.1 ≠ p := fun q hq => by have := a5 q hq; have := h.hi; omega
 refine ⟨s',_,S1,a1,set_put hcell,⟨put_here _ _ _,?_,hne',Nat.lt_of_lt_of_le h.hi a3,erase_srt h.srt i,by rw [List.length_eraseIdx,if_pos hi]; omega⟩,⟨by rw [put_next]; exact a3,fun id g1 g2 => ?_,fun id ho => ?_⟩⟩
 ·rw [Go.ChangeMaps.map_eraseIdx]
  exact a2.keep (fun q hq => put_other _ (hne' q hq)) (Nat.le_refl _)
 ·rw [put_other _ (fun e => g2 (.inl e))]
  exact a4 id g1 (fun q hq e => g2 (.inr ⟨q,hq,e⟩))
 ·rcases ho with g | ⟨q,g1,g2⟩
  ·exact .inl (.inl g)
  ·right; rw [← g2]; exact a5 q g1
theorem add_spec {k p : Nat} {s sl : Sl} {xs ls : List Ky} {S : HS} (hk : 2000 ≤ k) (h : SI p s xs S) (hr : S.rows sl 1 = some (ls.map row1)) (hlt : ∀ q,sl.a = some q → q.1 < S.next ∧ ¬ Own p s q.1) (hc : xs.length + ls.length ≤ 1000) :
  ∃ s' xs' S',set_Set_int_Add.f k (some (HA.cell0 p)) sl S = some ((xs'.length : Int) - xs.length,S') ∧ SI p s' xs' S' ∧ Only p s s' S S' ∧ (∀ v,v ∈ xs' ↔ v ∈ xs ∨ v ∈ ls) ∧ xs.length ≤ xs'.length ∧ xs'.length ≤ xs.length + ls.length := by
 have hsl : (sl.len : Int) = ls.length := by rw [← rows_len hr]; simp
 have hloop : ∀ (f i : Nat) (T : HS) (s1 : Sl) (ys : List Ky),ls.length - i < f → i ≤ ls.length → SI p s1 ys T → Only p s s1 S T → (∀ v,v ∈ ys ↔ v ∈ xs ∨ v ∈ ls.take i) → xs.length ≤ ys.length → ys.length ≤ xs.length + i →
   ∃ s' xs' S',set_Set_int_Add.L0 k f (some (HA.cell0 p)) ((ys.length : Int) - xs.length) sl (ls.length : Int) (i : Int) T = some ((xs'.length : Int) - xs.length,S') ∧ SI p s' xs' S' ∧ Only p s s' S S' ∧ (∀ v,v ∈ xs' ↔ v ∈ xs ∨ v ∈ ls) ∧ xs.length ≤ xs'.length ∧ xs'.length ≤ xs.length + ls.length := by
  intro f
  induction f with
  | zero => intro i T s1 ys h; omega
  | succ f ih =>
   intro i T s1 ys hf hi hT hO hm hge hle
   have hrT : T.rows sl 1 = some (ls.map row1) := rows_keep hr fun q hq => hO.eq q.1 (hlt q hq).1 (hlt q hq).2
   rw [set_Set_int_Add.L0]
   by_cases hil : i < ls.length
   ·obtain ⟨ad,a1,a2⟩ := ldK_at hrT hil
    obtain ⟨j,b1,hp⟩ := bs_spec (t := ls[i]) hk hT.srt hT.cnt hT.ov.rows
    have hmem : ∀ v,(v ∈ ls.take (i + 1) ↔ v ∈ ls.take i ∨ v = ls[i]) := fun v => by rw [List.take_succ_eq_append_getElem hil,List.mem_append,List.mem_singleton]
    rw [if_pos (by omega),a1,Option.bind_some,a2,Option.bind_some,Option.bind_some,hT.ld,Option.bind_some,b1,Option.bind_some]
    simp only
    by_cases hin : ls[i] ∈ ys
    ·rw [decide_eq_true hin,if_neg (by simp),set_Set_int_Add.J1,w64_id (by omega) (by omega),show ((i : Int) + 1) = ((i + 1 : Nat) : Int) by simp]
     refine ih (i + 1) T s1 ys (by omega) (by omega) hT hO (fun v => ?_) hge (by omega)
     rw [hmem,← or_assoc,← hm]
     exact ⟨fun h => .inl h,fun h => h.elim id (fun e => e ▸ hin)⟩
    ·obtain ⟨s2,T2,T1,c1,c2,c3,c4⟩ := ins_spec hT hp hin (by omega)
     have hlen : (ys.take j ++ [ls[i]] ++ ys.drop j).length = ys.length + 1 := by
      have := hp.le
      simp only [List.length_append,List.length_take,List.length_drop,List.length_singleton]; omega
     rw [decide_eq_false hin,if_pos (by simp),Option.bind_some,hT.ld,Option.bind_some,letv,c1,Option.bind_some,Option.bind_some,c2,Option.bind_some,set_Set_int_Add.J1,w64_id (n := (i : Int) + 1) (by omega) (by omega),show ((i : Int) + 1) = ((i + 1 : Nat) : Int) by simp,w64_id (by omega) (by omega)]
     have e : (ys.length : Int) - xs.length + 1 = ((ys.take j ++ [ls[i]] ++ ys.drop j).length : Int) - xs.length := by rw [hlen]; omega
     rw [e]
     refine ih (i + 1) T2 s2 _ (by omega) (by omega) c3 (hO.trans c4) (fun v => ?_) (by omega) (by omega)
     rw [ins_mem,hmem,← or_assoc,← hm]
   ·obtain rfl : i = ls.length := by omega
    rw [if_neg (by omega)]
    rw [List.take_length] at hm
    exact ⟨s1,ys,T,rfl,hT,hO,hm,hge,hle⟩
 rw [set_Set_int_Add.f,if_neg (by simp),hsl]
 have := hloop k 0 S s xs (by omega) (Nat.zero_le _) h (Only.refl _ _ _) (fun v => by simp) (Nat.le_refl _) (by omega)
 rw [show ((xs.length : Int) - xs.length) = 0 by omega] at this
 exact this
theorem remove_spec {k p : Nat} {s sl : Sl} {xs ls : List Ky} {S : HS} (hk : 2000 ≤ k) (h : SI p s xs S) (hr : S.rows sl 1 = some (ls.map row1)) (hlt : ∀ q,sl.a = some q → q.1 < S.next ∧ ¬ Own p s q.1) (hc : ls.length ≤ 1000) :
  ∃ s' xs' S',set_Set_int_Remove.f k (some (HA.cell0 p)) sl S = some ((xs.length : Int) - xs'.length,S') ∧ SI p s' xs' S' ∧ Only p s s' S S' ∧ (∀ v,v ∈ xs' ↔ v ∈ xs ∧ v ∉ ls) ∧ xs'.length ≤ xs.length := by
 have hsl : (sl.len : Int) = ls.length := by rw [← rows_len hr]; simp
 have hcnt := h.cnt
 have hloop : ∀ (f i : Nat) (T : HS) (s1 : Sl) (ys : List Ky),ls.length - i < f → i ≤ ls.length → SI p s1 ys T → Only p s s1 S T → (∀ v,v ∈ ys ↔ v ∈ xs ∧ v ∉ ls.take i) → ys.length ≤ xs.length →
   ∃ s' xs' S',set_Set_int_Remove.L0 k f (some (HA.cell0 p)) ((xs.length : Int) - ys.length) sl (ls.length : Int) (i : Int) T = some ((xs.length : Int) - xs'.length,S') ∧ SI p s' xs' S' ∧ Only p s s' S S' ∧ (∀ v,v ∈ xs' ↔ v ∈ xs ∧ v ∉ ls) ∧ xs'.length ≤ xs.length := by
  intro f
  induction f with
  | zero => intro i T s1 ys h; omega
  | succ f ih =>
   intro i T s1 ys hf hi hT hO hm hle
   have hrT : T.rows sl 1 = some (ls.map row1) := rows_keep hr fun q hq => hO.eq q.1 (hlt q hq).1 (hlt q hq).2
   rw [set_Set_int_Remove.L0]
   by_cases hil : i < ls.length
   ·obtain ⟨ad,a1,a2⟩ := ldK_at hrT hil
    obtain ⟨j,b1,hp⟩ := bs_spec (t := ls[i]) hk hT.srt hT.cnt hT.ov.rows
    have hmem : ∀ v,(v ∉ ls.take (i + 1) ↔ v ∉ ls.take i ∧ v ≠ ls[i]) := fun v => by rw [List.take_succ_eq_append_getElem hil,List.mem_append,List.mem_singleton,not_or]
    rw [if_pos (by omega),a1,Option.bind_some,a2,Option.bind_some,Option.bind_some,hT.ld,Option.bind_some,b1,Option.bind_some]
    simp only
    by_cases hin : ls[i] ∈ ys
    ·obtain ⟨hj,he⟩ := hp.here hT.srt hin
     obtain ⟨s2,T2,T1,c1,c2,c3,c4⟩ := del_spec hT hj
     have hlen : (ys.eraseIdx j).length = ys.length - 1 := by rw [List.length_eraseIdx,if_pos hj]
     rw [decide_eq_true hin,if_pos rfl,Option.bind_some,hT.ld,Option.bind_some,w64_id (n := (j : Int) + 1) (by omega) (by omega),show ((j : Int) + 1) = ((j + 1 : Nat) : Int) by simp,c1,Option.bind_some,Option.bind_some,c2,Option.bind_some,set_Set_int_Remove.J1,w64_id (n := (i : Int) + 1) (by omega) (by omega),show ((i : Int) + 1) = ((i + 1 : Nat) : Int) by simp,w64_id (by omega) (by omega)]
     have e : (xs.length : Int) - ys.length + 1 = (xs.length : Int) - ((ys.eraseIdx j).length : Int) := by rw [hlen]; omega
     rw [e]
     refine ih (i + 1) T2 s2 _ (by omega) (by omega) c3 (hO.trans c4) (fun v => ?_) (by omega)
     rw [erase_mem hT.srt hj,hmem,← and_assoc,← hm,he]
    ·rw [decide_eq_false hin,if_neg (by simp),set_Set_int_Remove.J1,w64_id (by omega) (by omega),show ((i : Int) + 1) = ((i + 1 : Nat) : Int) by simp]
     refine ih (i + 1) T s1 ys (by omega) (by omega) hT hO (fun v => ?_) hle
     rw [hmem,← and_assoc,← hm]
     exact ⟨fun h => ⟨h,fun e => hin (e ▸ h)⟩,fun h => h.1⟩
   ·obtain rfl : i = ls.length := by omega
    rw [if_neg (by omega)]
    rw [List.take_length] at hm
    exact ⟨s1,ys,T,rfl,hT,hO,hm,hle⟩
 rw [set_Set_int_Remove.f,if_neg (by simp),hsl]
 have := hloop k 0 S s xs (by omega) (Nat.zero_le _) h (Only.refl _ _ _) (fun v => by simp) (Nat.le_refl _)
 rw [show ((xs.length : Int) - xs.length) = 0 by omega] at this
 exact this
theorem len_spec {p : Nat} {s : Sl} {xs : List Ky} {S : HS} (h : SI p s xs S) : set_Set_int_Len.f (some (HA.cell0 p)) S = some ((xs.length : Int),S) := by
 rw [set_Set_int_Len.f,if_neg (by simp),Option.bind_some,h.ld,Option.bind_some,h.slen]
theorem of_spec {k : Nat} {sl : Sl} {ls : List Ky} {S : HS} (hk : 2000 ≤ k) (hr : Rd S.next S 1 sl (ls.map row1)) (hc : ls.length ≤ 1000) :
  ∃ s' xs' S',set_Of_int.f k sl S = some (some (HA.cell0 S.next),S') ∧ SI S.next s' xs' S' ∧ Fr S.next S S' ∧ (∀ id,Own S.next s' id → S.next ≤ id) ∧ (∀ v,v ∈ xs' ↔ v ∈ ls) ∧ xs'.length ≤ ls.length := by
 have fn : Fr S.next S (S.new (.cells 1 [[Sl.nil.hv]] true)) := Fr.new (Nat.le_refl _) _
 have h0 : SI S.next Sl.nil [] (S.new (.cells 1 [[Sl.nil.hv]] true)) := ⟨new_here _ _,.inl ⟨rfl,rfl,rfl⟩,fun q hq => (by cases hq),Nat.lt_succ_self _,List.Pairwise.nil,by simp⟩
 have nn : (S.new (.cells 1 [[Sl.nil.hv]] true)).next = S.next + 1 := rfl
 obtain ⟨s',xs',S',e,g1,g2,g3,g4,g5⟩ := add_spec hk h0 (hr.frame fn (Nat.le_refl _)).rows (fun q hq => ⟨by have := hr.lt q hq; omega,fun ho => by
  rcases ho with g | ⟨q',g,_⟩
  ·have := hr.lt q hq; omega
  ·cases g⟩) (by simpa using hc)
 rw [set_Of_int.f,letv,e,Option.bind_some]
 refine ⟨s',xs',S',rfl,g1,⟨by have := g2.le; omega,fun id hid => ?_⟩,fun id ho => ?_,fun v => by rw [g3]; simp,by simpa using g5⟩
 ·rw [g2.eq id (by omega) (fun ho => by
   rcases ho with g | ⟨q',g,_⟩
   ·omega
   ·cases g)]
  exact fn.eq id hid
 ·rcases g2.own id ho with g | g
  ·rcases g with g | ⟨q',g,_⟩
   ·omega
   ·cases g
  ·omega
end KI
end Go.Proofs.YtbmfomkfmpppiaaGreat.X
namespace Go.Proofs.YtbmfomkfmpppiaaGreat.X
open Go.Proofs.YtbmfomkfmpppiaaGreat.HL
set_option linter.unusedVariables false
namespace KS
abbrev Ky := List UInt8
def kv (k : Ky) : HV := .str k
def klt (a b : Ky) : Bool := slt a b
theorem klt_irrefl : ∀ (x : Ky),klt x x = false := by
 intro x
 unfold klt
 induction x with
 | nil => rfl
 | cons a x ih => simp [slt,ih]
theorem klt_trans : ∀ {a b c : Ky},klt a b = true → klt b c = true → klt a c = true := by
 unfold klt
 intro a
 induction a with
 | nil => intro b c h1 h2; cases c with
  | nil => cases b <;> simp [slt] at h2
  | cons z c => rfl
 | cons x a ih =>
  intro b c h1 h2
  cases b with
  | nil => simp [slt] at h1
  | cons y b =>
   cases c with
   | nil => simp [slt] at h2
   | cons z c =>
    simp only [slt,Bool.or_eq_true,decide_eq_true_eq,Bool.and_eq_true,beq_iff_eq] at *
    rcases h1 with h1 | ⟨h1,h1'⟩
    ·rcases h2 with h2 | ⟨h2,_⟩
     ·exact .inl (UInt8.lt_trans h1 h2)
     ·exact .inl (h2 ▸ h1)
    ·rcases h2 with h2 | ⟨h2,h2'⟩
     ·exact .inl (h1 ▸ h2)
     ·exact .inr ⟨h1.trans h2,ih h1' h2'⟩
theorem klt_tri : ∀ (a b : Ky),klt a b = true ∨ a = b ∨ klt b a = true := by
 unfold klt
 intro a
 induction a with
 | nil => intro b; cases b with
  | nil => exact .inr (.inl rfl)
  | cons y b => exact .inl rfl
 | cons x a ih =>
  intro b
  cases b with
  | nil => exact .inr (.inr rfl)
  | cons y b =>
   simp only [slt,Bool.or_eq_true,decide_eq_true_eq,Bool.and_eq_true,beq_iff_eq,List.cons.injEq]
   rcases Nat.lt_trichotomy x.toNat y.toNat with h | h | h
   ·exact .inl (.inl (UInt8.lt_iff_toNat_lt.2 h))
   ·have hxy := UInt8.toNat_inj.1 h
    rcases ih b with g | g | g
    ·exact .inl (.inr ⟨hxy,g⟩)
    ·exact .inr (.inl ⟨hxy,g⟩)
    ·exact .inr (.inr (.inr ⟨hxy.symm,g⟩))
   ·exact .inr (.inr (.inl (UInt8.lt_iff_toNat_lt.2 h)))
def row1 (k : Ky) : List HV := [kv k]
theorem ldK_at {S : HS} {s : Sl} {xs : List Ky} (h : S.rows s 1 = some (xs.map row1)) {i : Nat} (hi : i < xs.length) : ∃ ad,S.idx s (i : Int) 1 = some ad ∧ S.ldS ad = some xs[i] := by
 obtain ⟨ad,h1,h2⟩ := get_at h (i := i) (v := kv xs[i]) (by simpa using hi) (by rw [List.getElem_map]; rfl)
 exact ⟨ad,h1,by rw [HS.ldS,h2]; simp [dS,kv]⟩
theorem less_spec (a b : Ky) : cmp_Less_string.f a b = some (klt a b) := by
 have h : ∀ x,cmp_isNaN_string.f x = some false := fun x => by simp [cmp_isNaN_string.f]
 rw [cmp_Less_string.f,h,Option.bind_some,if_neg (by simp),cmp_Less_string.J0,if_neg (by simp),cmp_Less_string.J1]
 rfl
def Srt (es : List Ky) : Prop := es.Pairwise fun a b => klt a b = true
theorem Srt.lt {es : List Ky} (h : Srt es) {i j : Nat} (hi : i < es.length) (hj : j < es.length) (hij : i < j) : klt es[i] es[j] = true := List.pairwise_iff_getElem.1 h i j hi hj hij
structure PosOf (es : List Ky) (t : Ky) (p : Nat) : Prop where
 le : p ≤ es.length
 lo : ∀ q (hq : q < es.length),q < p → klt es[q] t = true
 hi : ∀ q (hq : q < es.length),p ≤ q → klt es[q] t = false
theorem PosOf.gt {es : List Ky} {t : Ky} {p : Nat} (h : PosOf es t p) (hs : Srt es) (hf : t ∉ es) {q : Nat} (hq : q < es.length) (hpq : p ≤ q) : klt t es[q] = true := by
 have h1 := h.hi q hq hpq
 rcases klt_tri es[q] t with g | g | g
 ·rw [h1] at g; cases g
 ·exact absurd (g ▸ List.getElem_mem hq) hf
 ·exact g
theorem PosOf.here {es : List Ky} {t : Ky} {p : Nat} (h : PosOf es t p) (hs : Srt es) (hm : t ∈ es) : ∃ hp : p < es.length,es[p] = t := by
 obtain ⟨q,hq,he⟩ := List.getElem_of_mem hm
 have hqp : p ≤ q := by
  rcases Nat.lt_or_ge q p with g | g
  ·have := h.lo q hq g; rw [he,klt_irrefl] at this; cases this
  ·exact g
 have hp : p < es.length := by omega
 refine ⟨hp,?_⟩
 rcases Nat.eq_or_lt_of_le hqp with g | g
 ·subst g; exact he
 ·have h1 := hs.lt hp hq g
  rw [he] at h1
  rw [h.hi p hp (Nat.le_refl _)] at h1; cases h1
theorem ins_srt {es : List Ky} {t : Ky} {p : Nat} (h : PosOf es t p) (hs : Srt es) (hf : t ∉ es) : Srt (es.take p ++ [t] ++ es.drop p) := by
 unfold Srt
 rw [List.append_assoc,List.pairwise_append]
 refine ⟨List.Pairwise.sublist (List.take_sublist _ _) hs,?_,fun a ha b hb => ?_⟩
 ·rw [List.singleton_append,List.pairwise_cons]
  refine ⟨fun b hb => ?_,List.Pairwise.sublist (List.drop_sublist _ _) hs⟩
  obtain ⟨q,hq,rfl⟩ := List.getElem_of_mem hb
  rw [List.getElem_drop]
  exact h.gt hs hf _ (by omega)
 ·obtain ⟨q,hq,rfl⟩ := List.getElem_of_mem ha
  rw [List.length_take] at hq
  rw [List.getElem_take]
  have h1 := h.lo q (by omega) (by omega)
  rcases List.mem_append.1 hb with hb | hb
  ·simp only [List.mem_singleton] at hb
   subst hb; exact h1
  ·obtain ⟨q2,hq2,rfl⟩ := List.getElem_of_mem hb
   rw [List.getElem_drop]
   rw [List.length_drop] at hq2
   exact hs.lt (by omega) (by omega) (by omega)
theorem ins_mem {es : List Ky} {t : Ky} {p : Nat} (v : Ky) : v ∈ es.take p ++ [t] ++ es.drop p ↔ v ∈ es ∨ v = t := by
 simp only [List.mem_append,List.mem_singleton]
 constructor
 ·rintro ((h | h) | h)
  ·exact .inl (List.mem_of_mem_take h)
  ·exact .inr h
  ·exact .inl (List.mem_of_mem_drop h)
 ·rintro (h | h)
  ·rw [← List.take_append_drop p es,List.mem_append] at h
   rcases h with h | h
   ·exact .inl (.inl h)
   ·exact .inr h
  ·exact .inl (.inr h)
theorem erase_srt {es : List Ky} (hs : Srt es) (p : Nat) : Srt (es.eraseIdx p) := List.Pairwise.sublist (List.eraseIdx_sublist _ _) hs
theorem erase_mem {es : List Ky} (hs : Srt es) {p : Nat} (hp : p < es.length) (v : Ky) : v ∈ es.eraseIdx p ↔ v ∈ es ∧ v ≠ es[p] := by
 rw [List.mem_eraseIdx_iff_getElem]
 constructor
 ·rintro ⟨q,hq,hne,rfl⟩
  refine ⟨List.getElem_mem hq,fun he => ?_⟩
  rcases Nat.lt_or_ge q p with g | g
  ·have := hs.lt hq hp g; rw [he,klt_irrefl] at this; cases this
  ·have := hs.lt hp hq (by omega); rw [he,klt_irrefl] at this; cases this
 ·rintro ⟨hm,hne⟩
  obtain ⟨q,hq,rfl⟩ := List.getElem_of_mem hm
  exact ⟨q,hq,fun e => hne (by subst e; rfl),rfl⟩
theorem srt_ext : ∀ {a b : List Ky},Srt a → Srt b → (∀ v,v ∈ a ↔ v ∈ b) → a = b := by
 intro a
 induction a with
 | nil =>
  intro b _ _ h
  cases b with
  | nil => rfl
  | cons y b => exact absurd ((h y).2 (by simp)) (by simp)
 | cons x a ih =>
  intro b ha hb h
  cases b with
  | nil => exact absurd ((h x).1 (by simp)) (by simp)
  | cons y b =>
   have ha' := List.pairwise_cons.1 ha
   have hb' := List.pairwise_cons.1 hb
   have hxy : x = y := by
    rcases List.mem_cons.1 ((h x).1 (by simp)) with g | g
    ·exact g
    ·rcases List.mem_cons.1 ((h y).2 (by simp)) with g2 | g2
     ·exact g2.symm
     ·have h1 := hb'.1 x g
      have h2 := ha'.1 y g2
      have := klt_trans h1 h2
      rw [klt_irrefl] at this; cases this
   subst hxy
   congr 1
   refine ih ha'.2 hb'.2 fun v => ?_
   have h1 := h v
   simp only [List.mem_cons] at h1
   constructor
   ·intro hv
    rcases h1.1 (.inr hv) with g | g
    ·subst g; have := ha'.1 v hv; rw [klt_irrefl] at this; cases this
    ·exact g
   ·intro hv
    rcases h1.2 (.inr hv) with g | g
    ·subst g; have := hb'.1 v hv; rw [klt_irrefl] at this; cases this
    ·exact g
theorem bs_spec {k : Nat} {S : HS} {s : Sl} {es : List Ky} {t : Ky} (hk : 2000 ≤ k) (hs : Srt es) (hle : es.length ≤ 1000) (hr : S.rows s 1 = some (es.map row1)) :
  ∃ p : Nat,slices_BinarySearch_string_string.f k s t S = some (((p : Int),decide (t ∈ es)),S) ∧ PosOf es t p := by
 have hsl : (s.len : Int) = es.length := by rw [← rows_len hr]; simp
 have hloop : ∀ (n i j : Nat),j - i < n → i ≤ j → j ≤ es.length → (∀ q (hq : q < es.length),q < i → klt es[q] t = true) → (∀ q (hq : q < es.length),j ≤ q → klt es[q] t = false) →
   ∃ p : Nat,slices_BinarySearch_string_string.L0 k n s t (es.length : Int) (i : Int) (j : Int) S = some (((p : Int),decide (t ∈ es)),S) ∧ PosOf es t p := by
  intro n
  induction n with
  | zero => intro i j h; omega
  | succ n ih =>
   intro i j hf hij hj hlo hhi
   rw [slices_BinarySearch_string_string.L0]
   by_cases hlt : i < j
   ·rw [if_pos (by omega),mid_eq (by omega)]
    have hm : (i + j) / 2 < es.length := by omega
    obtain ⟨ad,a1,a2⟩ := ldK_at hr hm
    rw [a1,Option.bind_some,a2,Option.bind_some,less_spec,Option.bind_some]
    cases hc : klt es[(i + j) / 2] t with
    | true =>
     rw [if_pos rfl,w64_id (by omega) (by omega),show ((((i + j) / 2 : Nat) : Int) + 1) = (((i + j) / 2 + 1 : Nat) : Int) by simp]
     exact ih ((i + j) / 2 + 1) j (by omega) (by omega) hj (fun q hq hqi => by
      rcases Nat.lt_or_ge q ((i + j) / 2) with h | h
      ·exact klt_trans (hs.lt hq hm h) hc
      ·obtain rfl : q = (i + j) / 2 := by omega
       exact hc) hhi
    | false =>
     rw [if_neg (by simp)]
     exact ih i ((i + j) / 2) (by omega) (by omega) (by omega) hlo (fun q hq hqi => by
      rcases Nat.lt_or_ge ((i + j) / 2) q with h | h
      ·cases h2 : klt es[q] t with
       | false => rfl
       | true => have := klt_trans (hs.lt hm hq h) h2; rw [hc] at this; cases this
      ·obtain rfl : q = (i + j) / 2 := by omega
       exact hc)
   ·obtain rfl : i = j := by omega
    rw [if_neg (by omega)]
    have hp : PosOf es t i := ⟨hj,hlo,hhi⟩
    refine ⟨i,?_,hp⟩
    by_cases hend : i < es.length
    ·obtain ⟨ad,a1,a2⟩ := ldK_at hr hend
     rw [if_pos (by omega),a1,Option.bind_some,a2,Option.bind_some]
     by_cases he : es[i] = t
     ·rw [if_pos he,slices_BinarySearch_string_string.J1,if_pos (by simpa using hend),slices_BinarySearch_string_string.J2,decide_eq_true (he ▸ List.getElem_mem hend)]
     ·have hno : t ∉ es := fun hm => by
       obtain ⟨_,h2⟩ := hp.here hs hm
       exact he h2
      rw [if_neg he,Option.bind_some,a2,Option.bind_some,show slices_isNaN_string.f es[i] = some false by simp [slices_isNaN_string.f],Option.bind_some,if_neg (by simp),slices_BinarySearch_string_string.J3,if_pos (by simpa using hend),if_neg (by simpa using he),slices_BinarySearch_string_string.J1,if_pos (by simpa using hend),slices_BinarySearch_string_string.J2,decide_eq_false hno]
    ·have hno : t ∉ es := fun hm => by
      obtain ⟨h1,_⟩ := hp.here hs hm
      exact hend h1
     rw [if_neg (by omega),slices_BinarySearch_string_string.J2,decide_eq_false hno]
 rw [slices_BinarySearch_string_string.f,hsl]
 exact hloop k 0 es.length (by omega) (Nat.zero_le _) (Nat.le_refl _) (fun q hq h => by omega) (fun q hq h => by omega)
structure SI (p : Nat) (s : Sl) (xs : List Ky) (S : HS) : Prop where
 cell : S.heap p = .cells 1 [[s.hv]] true
 ov : OV S 1 s (xs.map row1)
 ne : ∀ q,s.a = some q → q.1 ≠ p
 hi : p < S.next
 srt : Srt xs
 cnt : xs.length ≤ 1000
theorem SI.lt {p : Nat} {s : Sl} {xs : List Ky} {S : HS} (h : SI p s xs S) {id : Nat} (ho : Own p s id) : id < S.next := by
 rcases ho with rfl | ⟨q,h1,rfl⟩
 ·exact h.hi
 ·exact h.ov.lt h1
theorem SI.keep {p : Nat} {s : Sl} {xs : List Ky} {S S' : HS} (h : SI p s xs S) (he : ∀ id,Own p s id → S'.heap id = S.heap id) (hn : S.next ≤ S'.next) : SI p s xs S' :=
 ⟨(he p (.inl rfl)).trans h.cell,h.ov.keep (fun q hq => he q.1 (.inr ⟨q,hq,rfl⟩)) hn,h.ne,Nat.lt_of_lt_of_le h.hi hn,h.srt,h.cnt⟩
theorem SI.fr {p : Nat} {s : Sl} {xs : List Ky} {S S' : HS} (h : SI p s xs S) (hf : Fr S.next S S') : SI p s xs S' := h.keep (fun id ho => hf.eq id (h.lt ho)) hf.le
theorem SI.ld {p : Nat} {s : Sl} {xs : List Ky} {S : HS} (h : SI p s xs S) : S.ldSl (HA.fld (HA.cell0 p) 0) = some s := row_ldSl (cell_row h.cell) rfl rfl
theorem SI.slen {p : Nat} {s : Sl} {xs : List Ky} {S : HS} (h : SI p s xs S) : (s.len : Int) = xs.length := by rw [h.ov.len]; simp
theorem set_put {p : Nat} {s s' : Sl} {S : HS} (h : S.heap p = .cells 1 [[s.hv]] true) : S.sets (HA.fld (HA.cell0 p) 0) [s'.hv] = some (S.put p (.cells 1 [[s'.hv]] true)) := (sets_row h rfl (by simp)).trans rfl
theorem ins_spec {p : Nat} {s : Sl} {xs : List Ky} {S : HS} (h : SI p s xs S) {t : Ky} {i : Nat} (hp : PosOf xs t i) (hno : t ∉ xs) (hroom : xs.length < 1000) :
  ∃ s' S' S1,slices_Insert_string_string_w.f s (i : Int) (S.lit [[.str t]] 1).1 (S.lit [[.str t]] 1).2 = some (s',S1) ∧ S1.sets (HA.fld (HA.cell0 p) 0) [s'.hv] = some S' ∧ SI p s' (xs.take i ++ [t] ++ xs.drop i) S' ∧ Only p s s' S S' := by
 obtain ⟨s',S1,a1,a2,a3,a4,a5⟩ := ins_ov (row := row1 t) h.ov (i := i) (by simpa using hp.le) (by simp; omega)
 have hcell : S1.heap p = .cells 1 [[s.hv]] true := by rw [a4 p h.hi h.ne]; exact h.cell
 have hne' : ∀ q,s'.a = some q → q.1 ≠ p := fun q hq => by have := a5 q hq; have := h.hi; omega
 refine ⟨s',_,S1,a1,set_put hcell,⟨put_here _ _ _,?_,hne',Nat.lt_of_lt_of_le h.hi a3,ins_srt hp h.srt hno,by simp; omega⟩,⟨by rw [put_next]; exact a3,fun id g1 g2 => ?_,fun id ho => ?_⟩⟩
 ·have hm : (xs.take i ++ [t] ++ xs.drop i).map row1 = (xs.map row1).take i ++ [row1 t] ++ (xs.map row1).drop i := by simp only [List.map_append,List.map_take,List.map_drop,List.map_cons,List.map_nil]
  rw [hm]
  exact a2.keep (fun q hq => put_other _ (hne' q hq)) (Nat.le_refl _)
 ·rw [put_other _ (fun e => g2 (.inl e))]
  exact a4 id g1 (fun q hq e => g2 (.inr ⟨q,hq,e⟩))
 ·rcases ho with g | ⟨q,g1,g2⟩
  ·exact .inl (.inl g)
  ·right; rw [← g2]; exact a5 q g1
theorem del_spec {p : Nat} {s : Sl} {xs : List Ky} {S : HS} (h : SI p s xs S) {i : Nat} (hi : i < xs.length) :
  ∃ s' S' S1,slices_Delete_string_string_w.f s (i : Int) ((i + 1 : Nat) : Int) S = some (s',S1) ∧ S1.sets (HA.fld (HA.cell0 p) 0) [s'.hv] = some S' ∧ SI p s' (xs.eraseIdx i) S' ∧ Only p s s' S S' := by
 have hcnt := h.cnt
 obtain ⟨s',S1,a1,a2,a3,a4,a5⟩ := del_ov h.ov (i := i) (by simpa using hi) (by simp; omega)
 have hcell : S1.heap p = .cells 1 [[s.hv]] true := by rw [a4 p h.hi h.ne]; exact h.cell
 have hne' : ∀ q,s'.a = some q → q.1 ≠ p := fun q hq => by have := a5 q hq; have := h.hi; omega
 refine ⟨s',_,S1,a1,set_put hcell,⟨put_here _ _ _,?_,hne',Nat.lt_of_lt_of_le h.hi a3,erase_srt h.srt i,by rw [List.length_eraseIdx,if_pos hi]; omega⟩,⟨by rw [put_next]; exact a3,fun id g1 g2 => ?_,fun id ho => ?_⟩⟩
 ·rw [Go.ChangeMaps.map_eraseIdx]
  exact a2.keep (fun q hq => put_other _ (hne' q hq)) (Nat.le_refl _)
 ·rw [put_other _ (fun e => g2 (.inl e))]
  exact a4 id g1 (fun q hq e => g2 (.inr ⟨q,hq,e⟩))
 ·rcases ho with g | ⟨q,g1,g2⟩
  ·exact .inl (.inl g)
  ·right; rw [← g2]; exact a5 q g1
theorem add_spec {k p : Nat} {s sl : Sl} {xs ls : List Ky} {S : HS} (hk : 2000 ≤ k) (h : SI p s xs S) (hr : S.rows sl 1 = some (ls.map row1)) (hlt : ∀ q,sl.a = some q → q.1 < S.next ∧ ¬ Own p s q.1) (hc : xs.length + ls.length ≤ 1000) :
  ∃ s' xs' S',set_Set_string_Add.f k (some (HA.cell0 p)) sl S = some ((xs'.length : Int) - xs.length,S') ∧ SI p s' xs' S' ∧ Only p s s' S S' ∧ (∀ v,v ∈ xs' ↔ v ∈ xs ∨ v ∈ ls) ∧ xs.length ≤ xs'.length ∧ xs'.length ≤ xs.length + ls.length := by
 have hsl : (sl.len : Int) = ls.length := by rw [← rows_len hr]; simp
 have hloop : ∀ (f i : Nat) (T : HS) (s1 : Sl) (ys : List Ky),ls.length - i < f → i ≤ ls.length → SI p s1 ys T → Only p s s1 S T → (∀ v,v ∈ ys ↔ v ∈ xs ∨ v ∈ ls.take i) → xs.length ≤ ys.length → ys.length ≤ xs.length + i →
   ∃ s' xs' S',set_Set_string_Add.L0 k f (some (HA.cell0 p)) ((ys.length : Int) - xs.length) sl (ls.length : Int) (i : Int) T = some ((xs'.length : Int) - xs.length,S') ∧ SI p s' xs' S' ∧ Only p s s' S S' ∧ (∀ v,v ∈ xs' ↔ v ∈ xs ∨ v ∈ ls) ∧ xs.length ≤ xs'.length ∧ xs'.length ≤ xs.length + ls.length := by
  intro f
  induction f with
  | zero => intro i T s1 ys h; omega
  | succ f ih =>
   intro i T s1 ys hf hi hT hO hm hge hle
   have hrT : T.rows sl 1 = some (ls.map row1) := rows_keep hr fun q hq => hO.eq q.1 (hlt q hq).1 (hlt q hq).2
   rw [set_Set_string_Add.L0]
   by_cases hil : i < ls.length
   ·obtain ⟨ad,a1,a2⟩ := ldK_at hrT hil
    obtain ⟨j,b1,hp⟩ := bs_spec (t := ls[i]) hk hT.srt hT.cnt hT.ov.rows
    have hmem : ∀ v,(v ∈ ls.take (i + 1) ↔ v ∈ ls.take i ∨ v = ls[i]) := fun v => by rw [List.take_succ_eq_append_getElem hil,List.mem_append,List.mem_singleton]
    rw [if_pos (by omega),a1,Option.bind_some,a2,Option.bind_some,Option.bind_some,hT.ld,Option.bind_some,b1,Option.bind_some]
    simp only
    by_cases hin : ls[i] ∈ ys
    ·rw [decide_eq_true hin,if_neg (by simp),set_Set_string_Add.J1,w64_id (by omega) (by omega),show ((i : Int) + 1) = ((i + 1 : Nat) : Int) by simp]
     refine ih (i + 1) T s1 ys (by omega) (by omega) hT hO (fun v => ?_) hge (by omega)
     rw [hmem,← or_assoc,← hm]
     exact ⟨fun h => .inl h,fun h => h.elim id (fun e => e ▸ hin)⟩
    ·obtain ⟨s2,T2,T1,c1,c2,c3,c4⟩ := ins_spec hT hp hin (by omega)
     have hlen : (ys.take j ++ [ls[i]] ++ ys.drop j).length = ys.length + 1 := by
      have := hp.le
      simp only [List.length_append,List.length_take,List.length_drop,List.length_singleton]; omega
     rw [decide_eq_false hin,if_pos (by simp),Option.bind_some,hT.ld,Option.bind_some,letv,c1,Option.bind_some,Option.bind_some,c2,Option.bind_some,set_Set_string_Add.J1,w64_id (n := (i : Int) + 1) (by omega) (by omega),show ((i : Int) + 1) = ((i + 1 : Nat) : Int) by simp,w64_id (by omega) (by omega)]
     have e : (ys.length : Int) - xs.length + 1 = ((ys.take j ++ [ls[i]] ++ ys.drop j).length : Int) - xs.length := by rw [hlen]; omega
     rw [e]
     refine ih (i + 1) T2 s2 _ (by omega) (by omega) c3 (hO.trans c4) (fun v => ?_) (by omega) (by omega)
     rw [ins_mem,hmem,← or_assoc,← hm]
   ·obtain rfl : i = ls.length := by omega
    rw [if_neg (by omega)]
    rw [List.take_length] at hm
    exact ⟨s1,ys,T,rfl,hT,hO,hm,hge,hle⟩
 rw [set_Set_string_Add.f,if_neg (by simp),hsl]
 have := hloop k 0 S s xs (by omega) (Nat.zero_le _) h (Only.refl _ _ _) (fun v => by simp) (Nat.le_refl _) (by omega)
 rw [show ((xs.length : Int) - xs.length) = 0 by omega] at this
 exact this
theorem remove_spec {k p : Nat} {s sl : Sl} {xs ls : List Ky} {S : HS} (hk : 2000 ≤ k) (h : SI p s xs S) (hr : S.rows sl 1 = some (ls.map row1)) (hlt : ∀ q,sl.a = some q → q.1 < S.next ∧ ¬ Own p s q.1) (hc : ls.length ≤ 1000) :
  ∃ s' xs' S',set_Set_string_Remove.f k (some (HA.cell0 p)) sl S = some ((xs.length : Int) - xs'.length,S') ∧ SI p s' xs' S' ∧ Only p s s' S S' ∧ (∀ v,v ∈ xs' ↔ v ∈ xs ∧ v ∉ ls) ∧ xs'.length ≤ xs.length := by
 have hsl : (sl.len : Int) = ls.length := by rw [← rows_len hr]; simp
 have hcnt := h.cnt
 have hloop : ∀ (f i : Nat) (T : HS) (s1 : Sl) (ys : List Ky),ls.length - i < f → i ≤ ls.length → SI p s1 ys T → Only p s s1 S T → (∀ v,v ∈ ys ↔ v ∈ xs ∧ v ∉ ls.take i) → ys.length ≤ xs.length →
   ∃ s' xs' S',set_Set_string_Remove.L0 k f (some (HA.cell0 p)) ((xs.length : Int) - ys.length) sl (ls.length : Int) (i : Int) T = some ((xs.length : Int) - xs'.length,S') ∧ SI p s' xs' S' ∧ Only p s s' S S' ∧ (∀ v,v ∈ xs' ↔ v ∈ xs ∧ v ∉ ls) ∧ xs'.length ≤ xs.length := by
  intro f
  induction f with
  | zero => intro i T s1 ys h; omega
  | succ f ih =>
   intro i T s1 ys hf hi hT hO hm hle
   have hrT : T.rows sl 1 = some (ls.map row1) := rows_keep hr fun q hq => hO.eq q.1 (hlt q hq).1 (hlt q hq).2
   rw [set_Set_string_Remove.L0]
   by_cases hil : i < ls.length
   ·obtain ⟨ad,a1,a2⟩ := ldK_at hrT hil
    obtain ⟨j,b1,hp⟩ := bs_spec (t := ls[i]) hk hT.srt hT.cnt hT.ov.rows
    have hmem : ∀ v,(v ∉ ls.take (i + 1) ↔ v ∉ ls.take i ∧ v ≠ ls[i]) := fun v => by rw [List.take_succ_eq_append_getElem hil,List.mem_append,List.mem_singleton,not_or]
    rw [if_pos (by omega),a1,Option.bind_some,a2,Option.bind_some,Option.bind_some,hT.ld,Option.bind_some,b1,Option.bind_some]
    simp only
    by_cases hin : ls[i] ∈ ys
    ·obtain ⟨hj,he⟩ := hp.here hT.srt hin
     obtain ⟨s2,T2,T1,c1,c2,c3,c4⟩ := del_spec hT hj
     have hlen : (ys.eraseIdx j).length = ys.length - 1 := by rw [List.length_eraseIdx,if_pos hj]
     rw [decide_eq_true hin,if_pos rfl,Option.bind_some,hT.ld,Option.bind_some,w64_id (n := (j : Int) + 1) (by omega) (by omega),show ((j : Int) + 1) = ((j + 1 : Nat) : Int) by simp,c1,Option.bind_some,Option.bind_some,c2,Option.bind_some,set_Set_string_Remove.J1,w64_id (n := (i : Int) + 1) (by omega) (by omega),show ((i : Int) + 1) = ((i + 1 : Nat) : Int) by simp,w64_id (by omega) (by omega)]
     have e : (xs.length : Int) - ys.length + 1 = (xs.length : Int) - ((ys.eraseIdx j).length : Int) := by rw [hlen]; omega
     rw [e]
     refine ih (i + 1) T2 s2 _ (by omega) (by omega) c3 (hO.trans c4) (fun v => ?_) (by omega)
     rw [erase_mem hT.srt hj,hmem,← and_assoc,← hm,he]
    ·rw [decide_eq_false hin,if_neg (by simp),set_Set_string_Remove.J1,w64_id (by omega) (by omega),show ((i : Int) + 1) = ((i + 1 : Nat) : Int) by simp]
     refine ih (i + 1) T s1 ys (by omega) (by omega) hT hO (fun v => ?_) hle
     rw [hmem,← and_assoc,← hm]
     exact ⟨fun h => ⟨h,fun e => hin (e ▸ h)⟩,fun h => h.1⟩
   ·obtain rfl : i = ls.length := by omega
    rw [if_neg (by omega)]
    rw [List.take_length] at hm
    exact ⟨s1,ys,T,rfl,hT,hO,hm,hle⟩
 rw [set_Set_string_Remove.f,if_neg (by simp),hsl]
 have := hloop k 0 S s xs (by omega) (Nat.zero_le _) h (Only.refl _ _ _) (fun v => by simp) (Nat.le_refl _)
 rw [show ((xs.length : Int) - xs.length) = 0 by omega] at this
 exact this
theorem len_spec {p : Nat} {s : Sl} {xs : List Ky} {S : HS} (h : SI p s xs S) : set_Set_string_Len.f (some (HA.cell0 p)) S = some ((xs.length : Int),S) := by
 rw [set_Set_string_Len.f,if_neg (by simp),Option.bind_some,h.ld,Option.bind_some,h.slen]
theorem of_spec {k : Nat} {sl : Sl} {ls : List Ky} {S : HS} (hk : 2000 ≤ k) (hr : Rd S.next S 1 sl (ls.map row1)) (hc : ls.length ≤ 1000) :
  ∃ s' xs' S',set_Of_string.f k sl S = some (some (HA.cell0 S.next),S') ∧ SI S.next s' xs' S' ∧ Fr S.next S S' ∧ (∀ id,Own S.next s' id → S.next ≤ id) ∧ (∀ v,v ∈ xs' ↔ v ∈ ls) ∧ xs'.length ≤ ls.length := by
 have fn : Fr S.next S (S.new (.cells 1 [[Sl.nil.hv]] true)) := Fr.new (Nat.le_refl _) _
 have h0 : SI S.next Sl.nil [] (S.new (.cells 1 [[Sl.nil.hv]] true)) := ⟨new_here _ _,.inl ⟨rfl,rfl,rfl⟩,fun q hq => (by cases hq),Nat.lt_succ_self _,List.Pairwise.nil,by simp⟩
 have nn : (S.new (.cells 1 [[Sl.nil.hv]] true)).next = S.next + 1 := rfl
 obtain ⟨s',xs',S',e,g1,g2,g3,g4,g5⟩ := add_spec hk h0 (hr.frame fn (Nat.le_refl _)).rows (fun q hq => ⟨by have := hr.lt q hq; omega,fun ho => by
  rcases ho with g | ⟨q',g,_⟩
  ·have := hr.lt q hq; omega
  ·cases g⟩) (by simpa using hc)
 rw [set_Of_string.f,letv,e,Option.bind_some]
 refine ⟨s',xs',S',rfl,g1,⟨by have := g2.le; omega,fun id hid => ?_⟩,fun id ho => ?_,fun v => by rw [g3]; simp,by simpa using g5⟩
 ·rw [g2.eq id (by omega) (fun ho => by
   rcases ho with g | ⟨q',g,_⟩
   ·omega
   ·cases g)]
  exact fn.eq id hid
 ·rcases g2.own id ho with g | g
  ·rcases g with g | ⟨q',g,_⟩
   ·omega
   ·cases g
  ·omega
end KS
end Go.Proofs.YtbmfomkfmpppiaaGreat.X
namespace Go.Proofs.YtbmfomkfmpppiaaGreat.X
open Go.Proofs.YtbmfomkfmpppiaaGreat.HL
set_option linter.unusedVariables false
namespace KI
theorem list_spec {p : Nat} {s : Sl} {xs : List Ky} {S : HS} (h : SI p s xs S) : ∃ s' S',set_Set_int_List.f (some (HA.cell0 p)) S = some (s',S') ∧ S'.rows s' 1 = some (xs.map row1) ∧ (∀ q,s'.a = some q → S.next ≤ q.1 ∧ q.1 < S'.next) ∧ Fr S.next S S' := by
 rw [set_Set_int_List.f,if_neg (by simp),Option.bind_some,h.ld,Option.bind_some,slices_Clone_int_int.f]
 by_cases ha : s.a.isNone = true
 ·rw [if_pos ha,Option.bind_some]
  refine ⟨_,S,rfl,?_,fun q hq => (by cases hq),Fr.refl _ _⟩
  rw [h.ov.none (by simpa using ha)]; rfl
 ·have hcnt := h.cnt
  rw [if_neg ha,letv]
  have hl := Vec.lit (n := S.next) (z := 1) (S := S) [] (Nat.le_refl _)
  have hr' : (S.lit [] 1).2.rows s 1 = some (xs.map row1) := (h.ov.rd.frame (lit_fr [] (Nat.le_refl _)) (Nat.le_refl _)).rows
  obtain ⟨s',S1,e1,v1,f1⟩ := hl.app (new := xs.map row1) (Nat.le_succ _) (by simp; omega)
  rw [hr',Option.bind_some,e1,Option.bind_some,Option.bind_some]
  rw [List.nil_append] at v1
  exact ⟨s',S1,rfl,v1.rows,v1.lo,(lit_fr [] (Nat.le_refl _)).trans f1⟩
theorem app1_spec {n : Nat} {S : HS} {s : Sl} {xs : List Ky} (t : Ky) (h : Vec n S 1 s (xs.map row1)) (hn : n ≤ S.next) (hl : xs.length < 1000000) :
  ∃ s' S',HS.app (S.lit [[.int .i64 t]] 1).2 s [[.int .i64 t]] 1 = some (s',S') ∧ (S.lit [[.int .i64 t]] 1).2.rows (S.lit [[.int .i64 t]] 1).1 1 = some [[.int .i64 t]] ∧ Vec n S' 1 s' ((xs ++ [t]).map row1) ∧ Fr n S S' ∧ (∀ id,id < S.next → (∀ q,s.a = some q → q.1 ≠ id) → S'.heap id = S.heap id) ∧ (∀ q,s'.a = some q → S.next ≤ q.1 ∨ ∃ q0,s.a = some q0 ∧ q0.1 = q.1) := by
 have fl : Fr S.next S (S.lit [[.int .i64 t]] 1).2 := lit_fr _ (Nat.le_refl _)
 have nl : (S.lit [[.int .i64 t]] 1).2.next = S.next + 1 := rfl
 obtain ⟨s',S',e1,v1,f1,k1,q1⟩ := (h.frame fl (Nat.le_refl _)).app2 (new := [[.int .i64 t]]) (by omega) (by simp; omega)
 refine ⟨s',S',e1,(Vec.lit (n := 0) (z := 1) (S := S) _ (Nat.zero_le _)).rows,by rw [List.map_append]; exact v1,(fl.mono hn).trans f1,fun id h1 h2 => (k1 id (by omega) h2).trans (fl.eq id h1),fun q hq => ?_⟩
 rcases q1 q hq with g | g
 ·exact .inl (by omega)
 ·exact .inr g
end KI
end Go.Proofs.YtbmfomkfmpppiaaGreat.X
namespace Go.Proofs.YtbmfomkfmpppiaaGreat.X
open Go.Proofs.YtbmfomkfmpppiaaGreat.HL
set_option linter.unusedVariables false
namespace KS
theorem has_spec {k p : Nat} {s : Sl} {xs : List Ky} {S : HS} (hk : 2000 ≤ k) (h : SI p s xs S) (t : Ky) : set_Set_string_Has.f k (some (HA.cell0 p)) t S = some (decide (t ∈ xs),S) := by
 obtain ⟨j,b1,hp⟩ := bs_spec (t := t) hk h.srt h.cnt h.ov.rows
 rw [set_Set_string_Has.f,if_neg (by simp),Option.bind_some,h.ld,Option.bind_some,b1,Option.bind_some]
theorem list_spec {p : Nat} {s : Sl} {xs : List Ky} {S : HS} (h : SI p s xs S) : ∃ s' S',set_Set_string_List.f (some (HA.cell0 p)) S = some (s',S') ∧ S'.rows s' 1 = some (xs.map row1) ∧ (∀ q,s'.a = some q → S.next ≤ q.1 ∧ q.1 < S'.next) ∧ Fr S.next S S' := by
 rw [set_Set_string_List.f,if_neg (by simp),Option.bind_some,h.ld,Option.bind_some,slices_Clone_string_string.f]
 by_cases ha : s.a.isNone = true
 ·rw [if_pos ha,Option.bind_some]
  refine ⟨_,S,rfl,?_,fun q hq => (by cases hq),Fr.refl _ _⟩
  rw [h.ov.none (by simpa using ha)]; rfl
 ·have hcnt := h.cnt
  rw [if_neg ha,letv]
  have hl := Vec.lit (n := S.next) (z := 1) (S := S) [] (Nat.le_refl _)
  have hr' : (S.lit [] 1).2.rows s 1 = some (xs.map row1) := (h.ov.rd.frame (lit_fr [] (Nat.le_refl _)) (Nat.le_refl _)).rows
  obtain ⟨s',S1,e1,v1,f1⟩ := hl.app (new := xs.map row1) (Nat.le_succ _) (by simp; omega)
  rw [hr',Option.bind_some,e1,Option.bind_some,Option.bind_some]
  rw [List.nil_append] at v1
  exact ⟨s',S1,rfl,v1.rows,v1.lo,(lit_fr [] (Nat.le_refl _)).trans f1⟩
theorem values_tells {k n c : Nat} {B : HS} {s : Sl} {xs : List Ky} (hk : xs.length < k) (hx : xs.length ≤ 1000000) (hc : B.heap c = .cells 1 [[s.hv]] true) (hr : B.rows s 1 = some (xs.map row1)) (K : Nat → Prop) (hK : K c ∧ ∀ q,s.a = some q → K q.1) :
  Tells (disp k (n + 2)) (.fn (.func 130) [] [.ptr (some (HA.cell0 c))]) (xs.map row1) K B := by
 intro H l I Stop ht O S hI hB
 have hlen : (xs.map row1).length = xs.length := by simp
 have hcS : S.heap c = .cells 1 [[s.hv]] true := (hB c hK.1).1.trans hc
 have hrS : S.rows s 1 = some (xs.map row1) := rows_keep hr fun q hq => (hB q.1 (hK.2 q hq)).1
 have hloop : ∀ f i O1 T,xs.length - i < f → i ≤ xs.length → I i O1 T → S.next ≤ T.next → (∀ id,id < S.next → ¬ O id → T.heap id = S.heap id) → (∀ id,O1 id → O id ∨ S.next ≤ id) →
   ∃ S' O',slices_Values_string_string_1.L0 (disp k (n + 1)) H k f (.fn (.yield l) [] []) s (xs.length : Int) (i : Int) T = some ((),S') ∧ S.next ≤ S'.next ∧ (∀ id,id < S.next → ¬ O id → S'.heap id = S.heap id) ∧ (∀ id,O' id → O id ∨ S.next ≤ id) ∧ (I xs.length O' S' ∨ Stop O' S') := by
  intro f
  induction f with
  | zero => intro i O1 T h; omega
  | succ f ih =>
   intro i O1 T hf hi hIT hn hk2 hO
   rw [slices_Values_string_string_1.L0]
   by_cases hlt : i < xs.length
   ·have hrT : T.rows s 1 = some (xs.map row1) := rows_keep hrS fun q hq => hk2 q.1 (hB q.1 (hK.2 q hq)).2.2 (hB q.1 (hK.2 q hq)).2.1
    obtain ⟨ad,a1,a2⟩ := ldK_at hrT hlt
    obtain ⟨b,T2,O2,e2,n2,k2,o2,g1,g2⟩ := ht.step i (by omega) O1 T hIT
    have he : disp k (n + 1) H (.fn (.yield l) [] []) [.str xs[i]] T = some (.bool b,T2) := by
     rw [disp_yield,← e2,List.getElem_map]; rfl
    have hk3 : ∀ id,id < S.next → ¬ O id → T2.heap id = S.heap id := fun id h1 h2 => (k2 id (by omega) (fun ho => (hO id ho).elim h2 (fun h => by omega))).trans (hk2 id h1 h2)
    have hO3 : ∀ id,O2 id → O id ∨ S.next ≤ id := fun id h => (o2 id h).elim (hO id) (fun h => .inr (by omega))
    rw [if_pos (by omega),a1,Option.bind_some,a2,Option.bind_some,he,Option.bind_some]
    simp only [dB,Option.bind_some]
    cases b with
    | false => exact ⟨T2,O2,rfl,by omega,hk3,hO3,.inr (g2 rfl)⟩
    | true =>
     rw [if_neg (by simp),w64_id (by omega) (by omega),show ((i : Int) + 1) = ((i + 1 : Nat) : Int) by simp]
     exact ih (i + 1) O2 T2 (by omega) (by omega) (g1 rfl) (by omega) hk3 hO3
   ·obtain rfl : i = xs.length := by omega
    rw [if_neg (by omega)]
    exact ⟨T,O1,rfl,hn,hk2,hO,.inl hIT⟩
 obtain ⟨S',O',e,h1,h2,h3,h4⟩ := hloop k 0 O S (by omega) (Nat.zero_le _) hI (Nat.le_refl _) (fun _ _ _ => rfl) (fun _ h => .inl h)
 refine ⟨S',O',?_,h1,h2,h3,by rw [hlen]; exact h4⟩
 rw [disp_func]
 have hsl : (s.len : Int) = xs.length := by rw [← rows_len hrS]; simp
 have e' : call_130 (disp k (n + 1)) H k ([] ++ [HV.fn (.yield l) [] []] ++ [.ptr (some (HA.cell0 c))]) S = some (.tup [],S') := by
  rw [call_130]
  simp only [List.nil_append,List.cons_append,args2,Option.bind_some,dF,dP]
  rw [slices_Values_string_string_1.f,Option.bind_some,ldSl_cell hcS,Option.bind_some,hsl]
  erw [e]
  rfl
 repeat rw [if_neg (by decide)]
 rw [if_pos rfl,e']
theorem all_spec {p : Nat} {s : Sl} {xs : List Ky} {S : HS} (h : SI p s xs S) : ∃ c s' S',set_Set_string_All.f (some (HA.cell0 p)) S = some (.fn (.func 130) [] [.ptr (some (HA.cell0 c))],S') ∧ S'.heap c = .cells 1 [[s'.hv]] true ∧ S'.rows s' 1 = some (xs.map row1) ∧ (S.next ≤ c ∧ c < S'.next) ∧ (∀ q,s'.a = some q → S.next ≤ q.1 ∧ q.1 < S'.next) ∧ Fr S.next S S' := by
 obtain ⟨s',S1,e1,r1,q1,f1⟩ := list_spec h
 rw [set_Set_string_All.f,e1,Option.bind_some,slices_Values_string_string.f,letv,Option.bind_some]
 have hrd : Rd S1.next S1 1 s' (xs.map row1) := ⟨r1,fun q hq => (q1 q hq).2⟩
 exact ⟨S1.next,s',_,rfl,new_here _ _,(hrd.frame (Fr.new (Nat.le_refl _) _) (Nat.le_refl _)).rows,⟨f1.le,Nat.lt_succ_self _⟩,fun q hq => ⟨(q1 q hq).1,Nat.lt_succ_of_lt (q1 q hq).2⟩,f1.trans (Fr.new f1.le _)⟩
theorem app1_spec {n : Nat} {S : HS} {s : Sl} {xs : List Ky} (t : Ky) (h : Vec n S 1 s (xs.map row1)) (hn : n ≤ S.next) (hl : xs.length < 1000000) :
  ∃ s' S',HS.app (S.lit [[.str t]] 1).2 s [[.str t]] 1 = some (s',S') ∧ (S.lit [[.str t]] 1).2.rows (S.lit [[.str t]] 1).1 1 = some [[.str t]] ∧ Vec n S' 1 s' ((xs ++ [t]).map row1) ∧ Fr n S S' ∧ (∀ id,id < S.next → (∀ q,s.a = some q → q.1 ≠ id) → S'.heap id = S.heap id) ∧ (∀ q,s'.a = some q → S.next ≤ q.1 ∨ ∃ q0,s.a = some q0 ∧ q0.1 = q.1) := by
 have fl : Fr S.next S (S.lit [[.str t]] 1).2 := lit_fr _ (Nat.le_refl _)
 have nl : (S.lit [[.str t]] 1).2.next = S.next + 1 := rfl
 obtain ⟨s',S',e1,v1,f1,k1,q1⟩ := (h.frame fl (Nat.le_refl _)).app2 (new := [[.str t]]) (by omega) (by simp; omega)
 refine ⟨s',S',e1,(Vec.lit (n := 0) (z := 1) (S := S) _ (Nat.zero_le _)).rows,by rw [List.map_append]; exact v1,(fl.mono hn).trans f1,fun id h1 h2 => (k1 id (by omega) h2).trans (fl.eq id h1),fun q hq => ?_⟩
 rcases q1 q hq with g | g
 ·exact .inl (by omega)
 ·exact .inr g
end KS
end Go.Proofs.YtbmfomkfmpppiaaGreat.X
namespace Go.Proofs.YtbmfomkfmpppiaaGreat.X
open Go.Proofs.YtbmfomkfmpppiaaGreat.HL
set_option linter.unusedVariables false
namespace MA
abbrev Kk := KI.Ky
abbrev Vv := KS.Ky
structure En where
 key : Kk
 p : Nat
 s : Sl
 xs : List Vv
def ent (e : En) : HV × HV := (KI.kv e.key,.ptr (some (HA.cell0 e.p)))
theorem kSame_kv (a b : Kk) : kSame (KI.kv a) (KI.kv b) = some (a == b) := by simp [kSame,kSame1,KI.kv]
theorem mf_none {k : Kk} : ∀ {E : List En} (i : Nat),(∀ e ∈ E,e.key ≠ k) → mfind (KI.kv k) (E.map ent) i = some none := by
 intro E
 induction E with
 | nil => intro i _; rfl
 | cons e E ih =>
  intro i h
  rw [List.map_cons,mfind.eq_def]
  simp only [ent,kSame_kv,show (k == e.key) = false from beq_eq_false_iff_ne.2 (fun g => h e (by simp) g.symm)]
  exact ih (i + 1) fun x hx => h x (by simp [hx])
theorem mf_at {k : Kk} {e : En} {B : List En} (hk : e.key = k) : ∀ {A : List En} (i : Nat),(∀ a ∈ A,a.key ≠ k) → mfind (KI.kv k) ((A ++ e :: B).map ent) i = some (some (i + A.length,.ptr (some (HA.cell0 e.p)))) := by
 intro A
 induction A with
 | nil =>
  intro i _
  rw [List.nil_append,List.map_cons,mfind.eq_def]
  simp only [ent,kSame_kv,hk,beq_self_eq_true]
  rfl
 | cons a A ih =>
  intro i h
  rw [List.cons_append,List.map_cons,mfind.eq_def]
  simp only [ent,kSame_kv,show (k == a.key) = false from beq_eq_false_iff_ne.2 (fun g => h a (by simp) g.symm)]
  rw [ih (i + 1) fun x hx => h x (by simp [hx])]
  simp; omega
structure MS (m : Nat) (E : List En) (S : HS) : Prop where
 mp : S.heap m = .map (E.map ent)
 nd : E.Pairwise fun a b => a.key ≠ b.key
 si : ∀ e ∈ E,KS.SI e.p e.s e.xs S
 dis : E.Pairwise fun a b => ∀ id,Own a.p a.s id → ¬ Own b.p b.s id
 nm : ∀ e ∈ E,¬ Own e.p e.s m
 lt : m < S.next
def OM (m : Nat) (E : List En) (id : Nat) : Prop := id = m ∨ ∃ e ∈ E,Own e.p e.s id
def mem (E : List En) (k : Kk) (v : Vv) : Prop := ∃ e ∈ E,e.key = k ∧ v ∈ e.xs
theorem MS.ltO {m : Nat} {E : List En} {S : HS} (h : MS m E S) {id : Nat} (ho : OM m E id) : id < S.next := by
 rcases ho with rfl | ⟨e,he,ho⟩
 ·exact h.lt
 ·exact (h.si e he).lt ho
theorem MS.keep {m : Nat} {E : List En} {S S' : HS} (h : MS m E S) (hk : ∀ id,OM m E id → S'.heap id = S.heap id) (hn : S.next ≤ S'.next) : MS m E S' :=
 ⟨(hk m (.inl rfl)).trans h.mp,h.nd,fun e he => (h.si e he).keep (fun id ho => hk id (.inr ⟨e,he,ho⟩)) hn,h.dis,h.nm,Nat.lt_of_lt_of_le h.lt hn⟩
theorem MS.fr {m : Nat} {E : List En} {S S' : HS} (h : MS m E S) (hf : Fr S.next S S') : MS m E S' := h.keep (fun id ho => hf.eq id (h.ltO ho)) hf.le
theorem split_at {E : List En} {k : Kk} (hn : E.Pairwise fun a b => a.key ≠ b.key) {e : En} (he : e ∈ E) (hk : e.key = k) : ∃ A B,E = A ++ e :: B ∧ ∀ a ∈ A,a.key ≠ k := by
 obtain ⟨A,B,rfl⟩ := List.append_of_mem he
 refine ⟨A,B,rfl,fun a ha => ?_⟩
 rw [List.pairwise_append] at hn
 have := hn.2.2 a ha e (by simp)
 rw [← hk]; exact this
theorem get_spec {m : Nat} {E : List En} {S : HS} (h : MS m E S) (k : Kk) : (S.look (some m) (KI.kv k) = some none ∧ ∀ e ∈ E,e.key ≠ k) ∨ ∃ A e B,E = A ++ e :: B ∧ e.key = k ∧ (∀ a ∈ A,a.key ≠ k) ∧ S.look (some m) (KI.kv k) = some (some (.ptr (some (HA.cell0 e.p)))) := by
 by_cases hx : ∃ e ∈ E,e.key = k
 ·obtain ⟨e,he,hk⟩ := hx
  obtain ⟨A,B,rfl,hA⟩ := split_at h.nd he hk
  refine .inr ⟨A,e,B,rfl,hk,hA,?_⟩
  rw [HS.look,HS.mp,h.mp,Option.bind_some,mf_at hk 0 hA]; rfl
 ·refine .inl ⟨?_,fun e he g => hx ⟨e,he,g⟩⟩
  rw [HS.look,HS.mp,h.mp,Option.bind_some,mf_none 0 fun e he g => hx ⟨e,he,g⟩]; rfl
theorem MS.upd {m : Nat} {A B : List En} {e : En} {s' : Sl} {xs' : List Vv} {S S' : HS} (h : MS m (A ++ e :: B) S) (hs : KS.SI e.p s' xs' S') (ho : Only e.p e.s s' S S') :
  MS m (A ++ ⟨e.key,e.p,s',xs'⟩ :: B) S' ∧ Chg (OM m (A ++ e :: B)) (OM m (A ++ ⟨e.key,e.p,s',xs'⟩ :: B)) S S' := by
 have hle := ho.le
 have hd := h.dis
 rw [List.pairwise_append,List.pairwise_cons] at hd
 have hn := h.nd
 rw [List.pairwise_append,List.pairwise_cons] at hn
 have hso : ∀ id,Own e.p s' id → Own e.p e.s id ∨ S.next ≤ id := ho.own
 have hoth : ∀ a,a ∈ A ∨ a ∈ B → a ∈ A ++ e :: B ∧ ∀ id,Own a.p a.s id → ¬ Own e.p e.s id := fun a ha => by
  rcases ha with g | g
  ·exact ⟨by simp [g],fun id h1 h2 => hd.2.2 a g e (by simp) id h1 h2⟩
  ·exact ⟨by simp [g],fun id h1 h2 => hd.2.1.1 a g id h2 h1⟩
 have hnew : ∀ a,a ∈ A ∨ a ∈ B → ∀ id,Own a.p a.s id → ¬ Own e.p s' id := fun a ha id h1 h2 => by
  rcases hso id h2 with g | g
  ·exact (hoth a ha).2 id h1 g
  ·have := (h.si a (hoth a ha).1).lt h1; omega
 refine ⟨⟨?_,?_,fun x hx => ?_,?_,fun x hx => ?_,by have := h.lt; omega⟩,⟨hle,fun id h1 h2 => ho.eq id h1 fun g => h2 (.inr ⟨e,by simp,g⟩),fun id hid => ?_⟩⟩
 ·rw [ho.eq m h.lt (h.nm e (by simp)),h.mp]
  simp [ent]
 ·rw [List.pairwise_append,List.pairwise_cons]
  refine ⟨hn.1,⟨hn.2.1.1,hn.2.1.2⟩,fun a ha b hb => ?_⟩
  rcases List.mem_cons.1 hb with rfl | hb
  ·exact hn.2.2 a ha e (by simp)
  ·exact hn.2.2 a ha b (by simp [hb])
 ·rcases List.mem_append.1 hx with g | g
  ·exact (h.si x (by simp [g])).keep (fun id h1 => ho.eq id ((h.si x (by simp [g])).lt h1) ((hoth x (.inl g)).2 id h1)) hle
  ·rcases List.mem_cons.1 g with rfl | g
   ·exact hs
   ·exact (h.si x (by simp [g])).keep (fun id h1 => ho.eq id ((h.si x (by simp [g])).lt h1) ((hoth x (.inr g)).2 id h1)) hle
 ·rw [List.pairwise_append,List.pairwise_cons]
  refine ⟨hd.1,⟨fun b hb id h1 h2 => hnew b (.inr hb) id h2 h1,hd.2.1.2⟩,fun a ha b hb => ?_⟩
  rcases List.mem_cons.1 hb with rfl | hb
  ·exact hnew a (.inl ha)
  ·exact hd.2.2 a ha b (by simp [hb])
 ·rcases List.mem_append.1 hx with g | g
  ·exact h.nm x (by simp [g])
  ·rcases List.mem_cons.1 g with rfl | g
   ·intro g'
    rcases hso m g' with g2 | g2
    ·exact h.nm e (by simp) g2
    ·have := h.lt; omega
   ·exact h.nm x (by simp [g])
 ·rcases hid with rfl | ⟨x,hx,g⟩
  ·exact .inl (.inl rfl)
  ·rcases List.mem_append.1 hx with g' | g'
   ·exact .inl (.inr ⟨x,by simp [g'],g⟩)
   ·rcases List.mem_cons.1 g' with rfl | g'
    ·exact (hso id g).imp (fun q => .inr ⟨e,by simp,q⟩) id_
    ·exact .inl (.inr ⟨x,by simp [g'],g⟩)
where id_ {p : Prop} (h : p) : p := h
theorem j0_spec {k m : Nat} {A B : List En} {e : En} {v : Vv} {S : HS} (hk : 2000 ≤ k) (h : MS m (A ++ e :: B) S) (hA : ∀ a ∈ A,a.key ≠ e.key) (hc : e.xs.length < 1000) :
  ∃ s' xs' S',pair_put_int_string.J0 k (some m) e.key v S = some ((),S') ∧ MS m (A ++ ⟨e.key,e.p,s',xs'⟩ :: B) S' ∧ Chg (OM m (A ++ e :: B)) (OM m (A ++ ⟨e.key,e.p,s',xs'⟩ :: B)) S S' ∧ (∀ u,u ∈ xs' ↔ u ∈ e.xs ∨ u = v) ∧ xs'.length ≤ e.xs.length + 1 := by
 have he := h.si e (by simp)
 have hlk : S.look (some m) (KI.kv e.key) = some (some (.ptr (some (HA.cell0 e.p)))) := by
  rw [HS.look,HS.mp,h.mp,Option.bind_some,mf_at rfl 0 hA]; rfl
 have fl : Fr S.next S (S.lit [[.str v]] 1).2 := lit_fr _ (Nat.le_refl _)
 have nl : (S.lit [[.str v]] 1).2.next = S.next + 1 := rfl
 have rl : (S.lit [[.str v]] 1).2.rows (S.lit [[.str v]] 1).1 1 = some ([v].map KS.row1) := (Vec.lit (n := 0) (z := 1) (S := S) _ (Nat.zero_le _)).rows
 have ql : ∀ q,(S.lit [[.str v]] 1).1.a = some q → q.1 = S.next := fun q hq => by cases hq; rfl
 rw [pair_put_int_string.J0]
 erw [hlk]
 rw [Option.bind_some,show dP ((some (HV.ptr (some (HA.cell0 e.p)))).getD (.ptr none)) = some (some (HA.cell0 e.p)) from rfl,Option.bind_some,letv]
 generalize S.lit [[.str v]] 1 = P at fl nl rl ql ⊢
 obtain ⟨sl,S1⟩ := P
 simp only at fl nl rl ql ⊢
 have h1 := h.fr fl
 have he1 := he.fr fl
 obtain ⟨s',xs',S2,e2,i2,o2,m2,c2,c2'⟩ := KS.add_spec hk he1 rl (fun q hq => by
  have := ql q hq
  exact ⟨by omega,fun g => by have := he.lt g; omega⟩) (by simp; omega)
 obtain ⟨g1,g2⟩ := h1.upd i2 o2
 rw [e2,Option.bind_some]
 exact ⟨s',xs',S2,rfl,g1,(Chg.of_fr fl).trans g2,fun u => by rw [m2]; simp,by simpa using c2'⟩
theorem put_spec {k m n : Nat} {E : List En} {key : Kk} {v : Vv} {S : HS} (hk : 2000 ≤ k) (h : MS m E S) (hne : ∀ e ∈ E,e.xs ≠ []) (hc : ∀ e ∈ E,e.xs.length ≤ n) (hn : n < 1000) :
  ∃ E' S',pair_put_int_string.f k (some m) key v S = some ((),S') ∧ MS m E' S' ∧ Chg (OM m E) (OM m E') S S' ∧ (∀ k' v',mem E' k' v' ↔ mem E k' v' ∨ (k' = key ∧ v' = v)) ∧ (∀ e ∈ E',e.xs ≠ []) ∧ (∀ e ∈ E',e.xs.length ≤ n + 1) := by
 have hmem : ∀ (A B : List En) (e : En) (s' : Sl) (xs' : List Vv),e.key = key → (∀ u,u ∈ xs' ↔ u ∈ e.xs ∨ u = v) → ∀ k' v',mem (A ++ ⟨e.key,e.p,s',xs'⟩ :: B) k' v' ↔ mem (A ++ e :: B) k' v' ∨ (k' = key ∧ v' = v) := by
  intro A B e s' xs' hke hx k' v'
  constructor
  ·rintro ⟨x,hx1,hx2,hx3⟩
   rcases List.mem_append.1 hx1 with g | g
   ·exact .inl ⟨x,by simp [g],hx2,hx3⟩
   ·rcases List.mem_cons.1 g with rfl | g
    ·rcases (hx v').1 hx3 with g2 | g2
     ·exact .inl ⟨e,by simp,hx2,g2⟩
     ·exact .inr ⟨by rw [← hx2]; exact hke,g2⟩
    ·exact .inl ⟨x,by simp [g],hx2,hx3⟩
  ·rintro (⟨x,hx1,hx2,hx3⟩ | ⟨rfl,rfl⟩)
   ·rcases List.mem_append.1 hx1 with g | g
    ·exact ⟨x,by simp [g],hx2,hx3⟩
    ·rcases List.mem_cons.1 g with rfl | g
     ·exact ⟨⟨x.key,x.p,s',xs'⟩,by simp,hx2,(hx v').2 (.inl hx3)⟩
     ·exact ⟨x,by simp [g],hx2,hx3⟩
   ·exact ⟨⟨e.key,e.p,s',xs'⟩,by simp,hke,(hx _).2 (.inr rfl)⟩
 rw [pair_put_int_string.f]
 rcases get_spec h key with ⟨e1,hno⟩ | ⟨A,e,B,rfl,hke,hA,e1⟩
 ·obtain ⟨s,xs,S1,e2,i2,f2,o2,m2,c2⟩ := KS.of_spec (k := k) (sl := Sl.nil) (ls := []) (S := S) hk ⟨rfl,fun q hq => by cases hq⟩ (by simp)
  have hx : xs = [] := by simpa using c2
  subst hx
  have h1 := h.fr f2
  have le2 := f2.le
  have hput : S1.mput (some m) (KI.kv key) (.ptr (some (HA.cell0 S.next))) = some (S1.put m (.map ((E ++ [(⟨key,S.next,s,[]⟩ : En)]).map ent))) := by
   simp only [HS.mput,h1.mp]
   rw [mf_none 0 hno]
   simp [ent]
  erw [e1]
  rw [Option.bind_some,show dP ((none : Option HV).getD (.ptr none)) = some none from rfl,Option.bind_some,if_pos (by rfl),e2,Option.bind_some]
  erw [hput]
  rw [Option.bind_some]
  have hmO : ∀ id,Own S.next s id → id ≠ m := fun id g => by have := o2 id g; have := h.lt; omega
  have h2 : MS m (E ++ (⟨key,S.next,s,[]⟩ : En) :: []) (S1.put m (.map ((E ++ [(⟨key,S.next,s,[]⟩ : En)]).map ent))) := by
   refine ⟨put_here _ _ _,?_,fun x hx => ?_,?_,fun x hx => ?_,by rw [put_next]; have := h.lt; omega⟩
   ·rw [List.pairwise_append]
    exact ⟨h.nd,List.pairwise_singleton _ _,fun a ha b hb => by simp at hb; subst hb; exact hno a ha⟩
   ·rcases List.mem_append.1 hx with g | g
    ·exact (h1.si x g).keep (fun id ho => put_other _ (fun q => by subst q; exact h1.nm x g ho)) (Nat.le_refl _)
    ·simp at g; subst g; exact i2.keep (fun id ho => put_other _ (hmO id ho)) (Nat.le_refl _)
   ·rw [List.pairwise_append]
    refine ⟨h.dis,List.pairwise_singleton _ _,fun a ha b hb id g1 g2 => ?_⟩
    simp at hb; subst hb
    have := (h.si a ha).lt g1
    have := o2 id g2
    omega
   ·rcases List.mem_append.1 hx with g | g
    ·exact h.nm x g
    ·simp at g; subst g; exact fun ho => hmO m ho rfl
  have hch : Chg (OM m E) (OM m (E ++ (⟨key,S.next,s,[]⟩ : En) :: [])) S (S1.put m (.map ((E ++ [(⟨key,S.next,s,[]⟩ : En)]).map ent))) := by
   refine ⟨by rw [put_next]; omega,fun id g1 g2 => by rw [put_other _ (fun q => g2 (.inl q))]; exact f2.eq id g1,fun id ho => ?_⟩
   rcases ho with g | ⟨x,hx,g⟩
   ·exact .inl (.inl g)
   ·rcases List.mem_append.1 hx with g' | g'
    ·exact .inl (.inr ⟨x,g',g⟩)
    ·simp at g'; subst g'; exact .inr (o2 id g)
  obtain ⟨s',xs',S3,e3,g1,g2,g3,g4⟩ := j0_spec (v := v) hk h2 hno (by simp)
  refine ⟨_,S3,e3,g1,hch.trans g2,fun k' v' => ?_,fun x hx => ?_,fun x hx => ?_⟩
  ·rw [hmem E [] ⟨key,S.next,s,[]⟩ s' xs' rfl g3]
   have : mem (E ++ (⟨key,S.next,s,[]⟩ : En) :: []) k' v' ↔ mem E k' v' := by
    constructor
    ·rintro ⟨x,hx,q1,q2⟩
     rcases List.mem_append.1 hx with g | g
     ·exact ⟨x,g,q1,q2⟩
     ·simp at g; subst g; cases q2
    ·rintro ⟨x,hx,q1,q2⟩; exact ⟨x,by simp [hx],q1,q2⟩
   rw [this]
  ·rcases List.mem_append.1 hx with g | g
   ·exact hne x g
   ·simp at g; subst g
    intro q
    have := (g3 v).2 (.inr rfl)
    simp only at q
    rw [q] at this; cases this
  ·rcases List.mem_append.1 hx with g | g
   ·have := hc x g; omega
   ·simp at g; subst g; simp at g4; simp; omega
 ·subst hke
  obtain ⟨s',xs',S3,e3,g1,g2,g3,g4⟩ := j0_spec (v := v) hk h hA (by have := hc e (by simp); omega)
  erw [e1]
  rw [Option.bind_some,show dP ((some (HV.ptr (some (HA.cell0 e.p)))).getD (.ptr none)) = some (some (HA.cell0 e.p)) from rfl,Option.bind_some,if_neg (by simp),e3]
  refine ⟨_,S3,rfl,g1,g2,fun k' v' => hmem A B e s' xs' rfl g3 k' v',fun x hx => ?_,fun x hx => ?_⟩
  ·rcases List.mem_append.1 hx with g | g
   ·exact hne x (by simp [g])
   ·rcases List.mem_cons.1 g with rfl | g
    ·intro q
     have := (g3 v).2 (.inr rfl)
     simp only at q
     rw [q] at this; cases this
    ·exact hne x (by simp [g])
  ·rcases List.mem_append.1 hx with g | g
   ·have := hc x (by simp [g]); omega
   ·rcases List.mem_cons.1 g with rfl | g
    ·have := hc e (by simp); simp only; omega
    ·have := hc x (by simp [g]); omega
theorem MS.del {m : Nat} {A B : List En} {e : En} {S : HS} (h : MS m (A ++ e :: B) S) (hA : ∀ a ∈ A,a.key ≠ e.key) :
  ∃ S',S.mdel (some m) (KI.kv e.key) = some S' ∧ MS m (A ++ B) S' ∧ Chg (OM m (A ++ e :: B)) (OM m (A ++ B)) S S' := by
 have hd := h.dis
 rw [List.pairwise_append,List.pairwise_cons] at hd
 have hn := h.nd
 rw [List.pairwise_append,List.pairwise_cons] at hn
 have hsub : ∀ x,x ∈ A ++ B → x ∈ A ++ e :: B := fun x hx => by
  rcases List.mem_append.1 hx with g | g <;> simp [g]
 refine ⟨S.put m (.map ((A ++ B).map ent)),?_,⟨put_here _ _ _,?_,fun x hx => (h.si x (hsub x hx)).keep (fun id ho => put_other _ (fun q => by subst q; exact h.nm x (hsub x hx) ho)) (Nat.le_refl _),?_,fun x hx => h.nm x (hsub x hx),h.lt⟩,⟨Nat.le_refl _,fun id _ g2 => put_other _ (fun q => g2 (.inl q)),fun id ho => .inl ?_⟩⟩
 ·simp only [HS.mdel,h.mp]
  rw [mf_at rfl 0 hA]
  simp only [Option.map_some,Nat.zero_add]
  congr 3
  rw [List.map_append,List.eraseIdx_append_of_length_le (by simp)]
  simp
 ·rw [List.pairwise_append]; exact ⟨hn.1,hn.2.1.2,fun a ha b hb => hn.2.2 a ha b (by simp [hb])⟩
 ·rw [List.pairwise_append]; exact ⟨hd.1,hd.2.1.2,fun a ha b hb => hd.2.2 a ha b (by simp [hb])⟩
 ·rcases ho with g | ⟨x,hx,g⟩
  ·exact .inl g
  ·exact .inr ⟨x,hsub x hx,g⟩
theorem take_spec {k m n : Nat} {E : List En} {key : Kk} {v : Vv} {S : HS} (hk : 2000 ≤ k) (h : MS m E S) (hne : ∀ e ∈ E,e.xs ≠ []) (hc : ∀ e ∈ E,e.xs.length ≤ n) (hm : mem E key v) :
  ∃ E' S',pair_take_int_string.f k (some m) key v S = some ((),S') ∧ MS m E' S' ∧ Chg (OM m E) (OM m E') S S' ∧ (∀ k' v',mem E' k' v' ↔ mem E k' v' ∧ ¬ (k' = key ∧ v' = v)) ∧ (∀ e ∈ E',e.xs ≠ []) ∧ (∀ e ∈ E',e.xs.length ≤ n) := by
 obtain ⟨e,he,hke,hve⟩ := hm
 obtain ⟨A,B,rfl,hA⟩ := split_at h.nd he hke
 subst hke
 have hi := h.si e he
 have hnd := h.nd
 rw [List.pairwise_append,List.pairwise_cons] at hnd
 have hkB : ∀ b ∈ B,b.key ≠ e.key := fun b hb g => hnd.2.1.1 b hb g.symm
 have hlk : S.look (some m) (KI.kv e.key) = some (some (.ptr (some (HA.cell0 e.p)))) := by
  rw [HS.look,HS.mp,h.mp,Option.bind_some,mf_at rfl 0 hA]; rfl
 have fl : Fr S.next S (S.lit [[.str v]] 1).2 := lit_fr _ (Nat.le_refl _)
 have nl : (S.lit [[.str v]] 1).2.next = S.next + 1 := rfl
 have rl : (S.lit [[.str v]] 1).2.rows (S.lit [[.str v]] 1).1 1 = some ([v].map KS.row1) := (Vec.lit (n := 0) (z := 1) (S := S) _ (Nat.zero_le _)).rows
 have ql : ∀ q,(S.lit [[.str v]] 1).1.a = some q → q.1 = S.next := fun q hq => by cases hq; rfl
 rw [pair_take_int_string.f]
 erw [hlk]
 rw [Option.bind_some,show dP ((some (HV.ptr (some (HA.cell0 e.p)))).getD (.ptr none)) = some (some (HA.cell0 e.p)) from rfl,Option.bind_some,letv]
 generalize S.lit [[.str v]] 1 = P at fl nl rl ql ⊢
 obtain ⟨sl,S1⟩ := P
 simp only at fl nl rl ql ⊢
 have h1 := h.fr fl
 obtain ⟨s',xs',S2,e2,i2,o2,m2,c2⟩ := KS.remove_spec hk (hi.fr fl) rl (fun q hq => by
  have := ql q hq
  exact ⟨by omega,fun g => by have := hi.lt g; omega⟩) (by simp)
 obtain ⟨g1,g2⟩ := h1.upd i2 o2
 have hlk2 : S2.look (some m) (KI.kv e.key) = some (some (.ptr (some (HA.cell0 e.p)))) := by
  rw [HS.look,HS.mp,g1.mp,Option.bind_some,mf_at (e := ⟨e.key,e.p,s',xs'⟩) rfl 0 hA]; rfl
 have hx : ∀ u,u ∈ xs' ↔ u ∈ e.xs ∧ u ≠ v := fun u => by rw [m2]; simp
 rw [e2,Option.bind_some]
 erw [hlk2]
 rw [Option.bind_some,show dP ((some (HV.ptr (some (HA.cell0 e.p)))).getD (.ptr none)) = some (some (HA.cell0 e.p)) from rfl,Option.bind_some,KS.len_spec i2,Option.bind_some]
 have hmem : ∀ k' v',mem (A ++ ⟨e.key,e.p,s',xs'⟩ :: B) k' v' ↔ mem (A ++ e :: B) k' v' ∧ ¬ (k' = e.key ∧ v' = v) := by
  intro k' v'
  constructor
  ·rintro ⟨x,hx1,hx2,hx3⟩
   rcases List.mem_append.1 hx1 with g | g
   ·exact ⟨⟨x,by simp [g],hx2,hx3⟩,fun q => hA x g (hx2.trans q.1)⟩
   ·rcases List.mem_cons.1 g with rfl | g
    ·have := (hx v').1 hx3
     exact ⟨⟨e,by simp,hx2,this.1⟩,fun q => this.2 q.2⟩
    ·exact ⟨⟨x,by simp [g],hx2,hx3⟩,fun q => hkB x g (hx2.trans q.1)⟩
  ·rintro ⟨⟨x,hx1,hx2,hx3⟩,hq⟩
   rcases List.mem_append.1 hx1 with g | g
   ·exact ⟨x,by simp [g],hx2,hx3⟩
   ·rcases List.mem_cons.1 g with rfl | g
    ·exact ⟨⟨x.key,x.p,s',xs'⟩,by simp,hx2,(hx v').2 ⟨hx3,fun q => hq ⟨hx2.symm,q⟩⟩⟩
    ·exact ⟨x,by simp [g],hx2,hx3⟩
 by_cases h0 : xs' = []
 ·subst h0
  obtain ⟨S3,e3,k1,k2⟩ := g1.del hA
  rw [if_pos (by simp)]
  erw [e3]
  rw [Option.bind_some]
  refine ⟨A ++ B,S3,rfl,k1,((Chg.of_fr fl).trans g2).trans k2,fun k' v' => ?_,fun x hx => ?_,fun x hx => ?_⟩
  ·rw [← hmem]
   constructor
   ·rintro ⟨x,q1,q2,q3⟩
    refine ⟨x,?_,q2,q3⟩
    rcases List.mem_append.1 q1 with g | g <;> simp [g]
   ·rintro ⟨x,q1,q2,q3⟩
    rcases List.mem_append.1 q1 with g | g
    ·exact ⟨x,by simp [g],q2,q3⟩
    ·rcases List.mem_cons.1 g with rfl | g
     ·cases q3
     ·exact ⟨x,by simp [g],q2,q3⟩
  ·rcases List.mem_append.1 hx with g | g <;> exact hne x (by simp [g])
  ·rcases List.mem_append.1 hx with g | g <;> exact hc x (by simp [g])
 ·rw [if_neg (by simpa using h0)]
  refine ⟨_,S2,rfl,g1,(Chg.of_fr fl).trans g2,hmem,fun x hx => ?_,fun x hx => ?_⟩
  ·rcases List.mem_append.1 hx with g | g
   ·exact hne x (by simp [g])
   ·rcases List.mem_cons.1 g with rfl | g
    ·exact h0
    ·exact hne x (by simp [g])
  ·rcases List.mem_append.1 hx with g | g
   ·exact hc x (by simp [g])
   ·rcases List.mem_cons.1 g with rfl | g
    ·have := hc e (by simp); simp only; omega
    ·exact hc x (by simp [g])
end MA
end Go.Proofs.YtbmfomkfmpppiaaGreat.X
namespace Go.Proofs.YtbmfomkfmpppiaaGreat.X
open Go.Proofs.YtbmfomkfmpppiaaGreat.HL
set_option linter.unusedVariables false
namespace MB
abbrev Kk := KS.Ky
abbrev Vv := KI.Ky
structure En where
 key : Kk
 p : Nat
 s : Sl
 xs : List Vv
def ent (e : En) : HV × HV := (KS.kv e.key,.ptr (some (HA.cell0 e.p)))
theorem kSame_kv (a b : Kk) : kSame (KS.kv a) (KS.kv b) = some (a == b) := by simp [kSame,kSame1,KS.kv]
theorem mf_none {k : Kk} : ∀ {E : List En} (i : Nat),(∀ e ∈ E,e.key ≠ k) → mfind (KS.kv k) (E.map ent) i = some none := by
 intro E
 induction E with
 | nil => intro i _; rfl
 | cons e E ih =>
  intro i h
  rw [List.map_cons,mfind.eq_def]
  simp only [ent,kSame_kv,show (k == e.key) = false from beq_eq_false_iff_ne.2 (fun g => h e (by simp) g.symm)]
  exact ih (i + 1) fun x hx => h x (by simp [hx])
theorem mf_at {k : Kk} {e : En} {B : List En} (hk : e.key = k) : ∀ {A : List En} (i : Nat),(∀ a ∈ A,a.key ≠ k) → mfind (KS.kv k) ((A ++ e :: B).map ent) i = some (some (i + A.length,.ptr (some (HA.cell0 e.p)))) := by
 intro A
 induction A with
 | nil =>
  intro i _
  rw [List.nil_append,List.map_cons,mfind.eq_def]
  simp only [ent,kSame_kv,hk,beq_self_eq_true]
  rfl
 | cons a A ih =>
  intro i h
  rw [List.cons_append,List.map_cons,mfind.eq_def]
  simp only [ent,kSame_kv,show (k == a.key) = false from beq_eq_false_iff_ne.2 (fun g => h a (by simp) g.symm)]
  rw [ih (i + 1) fun x hx => h x (by simp [hx])]
  simp; omega
structure MS (m : Nat) (E : List En) (S : HS) : Prop where
 mp : S.heap m = .map (E.map ent)
 nd : E.Pairwise fun a b => a.key ≠ b.key
 si : ∀ e ∈ E,KI.SI e.p e.s e.xs S
 dis : E.Pairwise fun a b => ∀ id,Own a.p a.s id → ¬ Own b.p b.s id
 nm : ∀ e ∈ E,¬ Own e.p e.s m
 lt : m < S.next
def OM (m : Nat) (E : List En) (id : Nat) : Prop := id = m ∨ ∃ e ∈ E,Own e.p e.s id
def mem (E : List En) (k : Kk) (v : Vv) : Prop := ∃ e ∈ E,e.key = k ∧ v ∈ e.xs
theorem MS.ltO {m : Nat} {E : List En} {S : HS} (h : MS m E S) {id : Nat} (ho : OM m E id) : id < S.next := by
 rcases ho with rfl | ⟨e,he,ho⟩
 ·exact h.lt
 ·exact (h.si e he).lt ho
theorem MS.keep {m : Nat} {E : List En} {S S' : HS} (h : MS m E S) (hk : ∀ id,OM m E id → S'.heap id = S.heap id) (hn : S.next ≤ S'.next) : MS m E S' :=
 ⟨(hk m (.inl rfl)).trans h.mp,h.nd,fun e he => (h.si e he).keep (fun id ho => hk id (.inr ⟨e,he,ho⟩)) hn,h.dis,h.nm,Nat.lt_of_lt_of_le h.lt hn⟩
theorem MS.fr {m : Nat} {E : List En} {S S' : HS} (h : MS m E S) (hf : Fr S.next S S') : MS m E S' := h.keep (fun id ho => hf.eq id (h.ltO ho)) hf.le
theorem split_at {E : List En} {k : Kk} (hn : E.Pairwise fun a b => a.key ≠ b.key) {e : En} (he : e ∈ E) (hk : e.key = k) : ∃ A B,E = A ++ e :: B ∧ ∀ a ∈ A,a.key ≠ k := by
 obtain ⟨A,B,rfl⟩ := List.append_of_mem he
 refine ⟨A,B,rfl,fun a ha => ?_⟩
 rw [List.pairwise_append] at hn
 have := hn.2.2 a ha e (by simp)
 rw [← hk]; exact this
theorem get_spec {m : Nat} {E : List En} {S : HS} (h : MS m E S) (k : Kk) : (S.look (some m) (KS.kv k) = some none ∧ ∀ e ∈ E,e.key ≠ k) ∨ ∃ A e B,E = A ++ e :: B ∧ e.key = k ∧ (∀ a ∈ A,a.key ≠ k) ∧ S.look (some m) (KS.kv k) = some (some (.ptr (some (HA.cell0 e.p)))) := by
 by_cases hx : ∃ e ∈ E,e.key = k
 ·obtain ⟨e,he,hk⟩ := hx
  obtain ⟨A,B,rfl,hA⟩ := split_at h.nd he hk
  refine .inr ⟨A,e,B,rfl,hk,hA,?_⟩
  rw [HS.look,HS.mp,h.mp,Option.bind_some,mf_at hk 0 hA]; rfl
 ·refine .inl ⟨?_,fun e he g => hx ⟨e,he,g⟩⟩
  rw [HS.look,HS.mp,h.mp,Option.bind_some,mf_none 0 fun e he g => hx ⟨e,he,g⟩]; rfl
theorem MS.upd {m : Nat} {A B : List En} {e : En} {s' : Sl} {xs' : List Vv} {S S' : HS} (h : MS m (A ++ e :: B) S) (hs : KI.SI e.p s' xs' S') (ho : Only e.p e.s s' S S') :
  MS m (A ++ ⟨e.key,e.p,s',xs'⟩ :: B) S' ∧ Chg (OM m (A ++ e :: B)) (OM m (A ++ ⟨e.key,e.p,s',xs'⟩ :: B)) S S' := by
 have hle := ho.le
 have hd := h.dis
 rw [List.pairwise_append,List.pairwise_cons] at hd
 have hn := h.nd
 rw [List.pairwise_append,List.pairwise_cons] at hn
 have hso : ∀ id,Own e.p s' id → Own e.p e.s id ∨ S.next ≤ id := ho.own
 have hoth : ∀ a,a ∈ A ∨ a ∈ B → a ∈ A ++ e :: B ∧ ∀ id,Own a.p a.s id → ¬ Own e.p e.s id := fun a ha => by
  rcases ha with g | g
  ·exact ⟨by simp [g],fun id h1 h2 => hd.2.2 a g e (by simp) id h1 h2⟩
  ·exact ⟨by simp [g],fun id h1 h2 => hd.2.1.1 a g id h2 h1⟩
 have hnew : ∀ a,a ∈ A ∨ a ∈ B → ∀ id,Own a.p a.s id → ¬ Own e.p s' id := fun a ha id h1 h2 => by
  rcases hso id h2 with g | g
  ·exact (hoth a ha).2 id h1 g
  ·have := (h.si a (hoth a ha).1).lt h1; omega
 refine ⟨⟨?_,?_,fun x hx => ?_,?_,fun x hx => ?_,by have := h.lt; omega⟩,⟨hle,fun id h1 h2 => ho.eq id h1 fun g => h2 (.inr ⟨e,by simp,g⟩),fun id hid => ?_⟩⟩
 ·rw [ho.eq m h.lt (h.nm e (by simp)),h.mp]
  simp [ent]
 ·rw [List.pairwise_append,List.pairwise_cons]
  refine ⟨hn.1,⟨hn.2.1.1,hn.2.1.2⟩,fun a ha b hb => ?_⟩
  rcases List.mem_cons.1 hb with rfl | hb
  ·exact hn.2.2 a ha e (by simp)
  ·exact hn.2.2 a ha b (by simp [hb])
 ·rcases List.mem_append.1 hx with g | g
  ·exact (h.si x (by simp [g])).keep (fun id h1 => ho.eq id ((h.si x (by simp [g])).lt h1) ((hoth x (.inl g)).2 id h1)) hle
  ·rcases List.mem_cons.1 g with rfl | g
   ·exact hs
   ·exact (h.si x (by simp [g])).keep (fun id h1 => ho.eq id ((h.si x (by simp [g])).lt h1) ((hoth x (.inr g)).2 id h1)) hle
 ·rw [List.pairwise_append,List.pairwise_cons]
  refine ⟨hd.1,⟨fun b hb id h1 h2 => hnew b (.inr hb) id h2 h1,hd.2.1.2⟩,fun a ha b hb => ?_⟩
  rcases List.mem_cons.1 hb with rfl | hb
  ·exact hnew a (.inl ha)
  ·exact hd.2.2 a ha b (by simp [hb])
 ·rcases List.mem_append.1 hx with g | g
  ·exact h.nm x (by simp [g])
  ·rcases List.mem_cons.1 g with rfl | g
   ·intro g'
    rcases hso m g' with g2 | g2
    ·exact h.nm e (by simp) g2
    ·have := h.lt; omega
   ·exact h.nm x (by simp [g])
 ·rcases hid with rfl | ⟨x,hx,g⟩
  ·exact .inl (.inl rfl)
  ·rcases List.mem_append.1 hx with g' | g'
   ·exact .inl (.inr ⟨x,by simp [g'],g⟩)
   ·rcases List.mem_cons.1 g' with rfl | g'
    ·exact (hso id g).imp (fun q => .inr ⟨e,by simp,q⟩) id_
    ·exact .inl (.inr ⟨x,by simp [g'],g⟩)
where id_ {p : Prop} (h : p) : p := h
theorem j0_spec {k m : Nat} {A B : List En} {e : En} {v : Vv} {S : HS} (hk : 2000 ≤ k) (h : MS m (A ++ e :: B) S) (hA : ∀ a ∈ A,a.key ≠ e.key) (hc : e.xs.length < 1000) :
  ∃ s' xs' S',pair_put_string_int.J0 k (some m) e.key v S = some ((),S') ∧ MS m (A ++ ⟨e.key,e.p,s',xs'⟩ :: B) S' ∧ Chg (OM m (A ++ e :: B)) (OM m (A ++ ⟨e.key,e.p,s',xs'⟩ :: B)) S S' ∧ (∀ u,u ∈ xs' ↔ u ∈ e.xs ∨ u = v) ∧ xs'.length ≤ e.xs.length + 1 := by
 have he := h.si e (by simp)
 have hlk : S.look (some m) (KS.kv e.key) = some (some (.ptr (some (HA.cell0 e.p)))) := by
  rw [HS.look,HS.mp,h.mp,Option.bind_some,mf_at rfl 0 hA]; rfl
 have fl : Fr S.next S (S.lit [[.int .i64 v]] 1).2 := lit_fr _ (Nat.le_refl _)
 have nl : (S.lit [[.int .i64 v]] 1).2.next = S.next + 1 := rfl
 have rl : (S.lit [[.int .i64 v]] 1).2.rows (S.lit [[.int .i64 v]] 1).1 1 = some ([v].map KI.row1) := (Vec.lit (n := 0) (z := 1) (S := S) _ (Nat.zero_le _)).rows
 have ql : ∀ q,(S.lit [[.int .i64 v]] 1).1.a = some q → q.1 = S.next := fun q hq => by cases hq; rfl
 rw [pair_put_string_int.J0]
 erw [hlk]
 rw [Option.bind_some,show dP ((some (HV.ptr (some (HA.cell0 e.p)))).getD (.ptr none)) = some (some (HA.cell0 e.p)) from rfl,Option.bind_some,letv]
 generalize S.lit [[.int .i64 v]] 1 = P at fl nl rl ql ⊢
 obtain ⟨sl,S1⟩ := P
 simp only at fl nl rl ql ⊢
 have h1 := h.fr fl
 have he1 := he.fr fl
 obtain ⟨s',xs',S2,e2,i2,o2,m2,c2,c2'⟩ := KI.add_spec hk he1 rl (fun q hq => by
  have := ql q hq
  exact ⟨by omega,fun g => by have := he.lt g; omega⟩) (by simp; omega)
 obtain ⟨g1,g2⟩ := h1.upd i2 o2
 rw [e2,Option.bind_some]
 exact ⟨s',xs',S2,rfl,g1,(Chg.of_fr fl).trans g2,fun u => by rw [m2]; simp,by simpa using c2'⟩
theorem put_spec {k m n : Nat} {E : List En} {key : Kk} {v : Vv} {S : HS} (hk : 2000 ≤ k) (h : MS m E S) (hne : ∀ e ∈ E,e.xs ≠ []) (hc : ∀ e ∈ E,e.xs.length ≤ n) (hn : n < 1000) :
  ∃ E' S',pair_put_string_int.f k (some m) key v S = some ((),S') ∧ MS m E' S' ∧ Chg (OM m E) (OM m E') S S' ∧ (∀ k' v',mem E' k' v' ↔ mem E k' v' ∨ (k' = key ∧ v' = v)) ∧ (∀ e ∈ E',e.xs ≠ []) ∧ (∀ e ∈ E',e.xs.length ≤ n + 1) := by
 have hmem : ∀ (A B : List En) (e : En) (s' : Sl) (xs' : List Vv),e.key = key → (∀ u,u ∈ xs' ↔ u ∈ e.xs ∨ u = v) → ∀ k' v',mem (A ++ ⟨e.key,e.p,s',xs'⟩ :: B) k' v' ↔ mem (A ++ e :: B) k' v' ∨ (k' = key ∧ v' = v) := by
  intro A B e s' xs' hke hx k' v'
  constructor
  ·rintro ⟨x,hx1,hx2,hx3⟩
   rcases List.mem_append.1 hx1 with g | g
   ·exact .inl ⟨x,by simp [g],hx2,hx3⟩
   ·rcases List.mem_cons.1 g with rfl | g
    ·rcases (hx v').1 hx3 with g2 | g2
     ·exact .inl ⟨e,by simp,hx2,g2⟩
     ·exact .inr ⟨by rw [← hx2]; exact hke,g2⟩
    ·exact .inl ⟨x,by simp [g],hx2,hx3⟩
  ·rintro (⟨x,hx1,hx2,hx3⟩ | ⟨rfl,rfl⟩)
   ·rcases List.mem_append.1 hx1 with g | g
    ·exact ⟨x,by simp [g],hx2,hx3⟩
    ·rcases List.mem_cons.1 g with rfl | g
     ·exact ⟨⟨x.key,x.p,s',xs'⟩,by simp,hx2,(hx v').2 (.inl hx3)⟩
     ·exact ⟨x,by simp [g],hx2,hx3⟩
   ·exact ⟨⟨e.key,e.p,s',xs'⟩,by simp,hke,(hx _).2 (.inr rfl)⟩
 rw [pair_put_string_int.f]
 rcases get_spec h key with ⟨e1,hno⟩ | ⟨A,e,B,rfl,hke,hA,e1⟩
 ·obtain ⟨s,xs,S1,e2,i2,f2,o2,m2,c2⟩ := KI.of_spec (k := k) (sl := Sl.nil) (ls := []) (S := S) hk ⟨rfl,fun q hq => by cases hq⟩ (by simp)
  have hx : xs = [] := by simpa using c2
  subst hx
  have h1 := h.fr f2
  have le2 := f2.le
  have hput : S1.mput (some m) (KS.kv key) (.ptr (some (HA.cell0 S.next))) = some (S1.put m (.map ((E ++ [(⟨key,S.next,s,[]⟩ : En)]).map ent))) := by
   simp only [HS.mput,h1.mp]
   rw [mf_none 0 hno]
   simp [ent]
  erw [e1]
  rw [Option.bind_some,show dP ((none : Option HV).getD (.ptr none)) = some none from rfl,Option.bind_some,if_pos (by rfl),e2,Option.bind_some]
  erw [hput]
  rw [Option.bind_some]
  have hmO : ∀ id,Own S.next s id → id ≠ m := fun id g => by have := o2 id g; have := h.lt; omega
  have h2 : MS m (E ++ (⟨key,S.next,s,[]⟩ : En) :: []) (S1.put m (.map ((E ++ [(⟨key,S.next,s,[]⟩ : En)]).map ent))) := by
   refine ⟨put_here _ _ _,?_,fun x hx => ?_,?_,fun x hx => ?_,by rw [put_next]; have := h.lt; omega⟩
   ·rw [List.pairwise_append]
    exact ⟨h.nd,List.pairwise_singleton _ _,fun a ha b hb => by simp at hb; subst hb; exact hno a ha⟩
   ·rcases List.mem_append.1 hx with g | g
    ·exact (h1.si x g).keep (fun id ho => put_other _ (fun q => by subst q; exact h1.nm x g ho)) (Nat.le_refl _)
    ·simp at g; subst g; exact i2.keep (fun id ho => put_other _ (hmO id ho)) (Nat.le_refl _)
   ·rw [List.pairwise_append]
    refine ⟨h.dis,List.pairwise_singleton _ _,fun a ha b hb id g1 g2 => ?_⟩
    simp at hb; subst hb
    have := (h.si a ha).lt g1
    have := o2 id g2
    omega
   ·rcases List.mem_append.1 hx with g | g
    ·exact h.nm x g
    ·simp at g; subst g; exact fun ho => hmO m ho rfl
  have hch : Chg (OM m E) (OM m (E ++ (⟨key,S.next,s,[]⟩ : En) :: [])) S (S1.put m (.map ((E ++ [(⟨key,S.next,s,[]⟩ : En)]).map ent))) := by
   refine ⟨by rw [put_next]; omega,fun id g1 g2 => by rw [put_other _ (fun q => g2 (.inl q))]; exact f2.eq id g1,fun id ho => ?_⟩
   rcases ho with g | ⟨x,hx,g⟩
   ·exact .inl (.inl g)
   ·rcases List.mem_append.1 hx with g' | g'
    ·exact .inl (.inr ⟨x,g',g⟩)
    ·simp at g'; subst g'; exact .inr (o2 id g)
  obtain ⟨s',xs',S3,e3,g1,g2,g3,g4⟩ := j0_spec (v := v) hk h2 hno (by simp)
  refine ⟨_,S3,e3,g1,hch.trans g2,fun k' v' => ?_,fun x hx => ?_,fun x hx => ?_⟩
  ·rw [hmem E [] ⟨key,S.next,s,[]⟩ s' xs' rfl g3]
   have : mem (E ++ (⟨key,S.next,s,[]⟩ : En) :: []) k' v' ↔ mem E k' v' := by
    constructor
    ·rintro ⟨x,hx,q1,q2⟩
     rcases List.mem_append.1 hx with g | g
     ·exact ⟨x,g,q1,q2⟩
     ·simp at g; subst g; cases q2
    ·rintro ⟨x,hx,q1,q2⟩; exact ⟨x,by simp [hx],q1,q2⟩
   rw [this]
  ·rcases List.mem_append.1 hx with g | g
   ·exact hne x g
   ·simp at g; subst g
    intro q
    have := (g3 v).2 (.inr rfl)
    simp only at q
    rw [q] at this; cases this
  ·rcases List.mem_append.1 hx with g | g
   ·have := hc x g; omega
   ·simp at g; subst g; simp at g4; simp; omega
 ·subst hke
  obtain ⟨s',xs',S3,e3,g1,g2,g3,g4⟩ := j0_spec (v := v) hk h hA (by have := hc e (by simp); omega)
  erw [e1]
  rw [Option.bind_some,show dP ((some (HV.ptr (some (HA.cell0 e.p)))).getD (.ptr none)) = some (some (HA.cell0 e.p)) from rfl,Option.bind_some,if_neg (by simp),e3]
  refine ⟨_,S3,rfl,g1,g2,fun k' v' => hmem A B e s' xs' rfl g3 k' v',fun x hx => ?_,fun x hx => ?_⟩
  ·rcases List.mem_append.1 hx with g | g
   ·exact hne x (by simp [g])
   ·rcases List.mem_cons.1 g with rfl | g
    ·intro q
     have := (g3 v).2 (.inr rfl)
     simp only at q
     rw [q] at this; cases this
    ·exact hne x (by simp [g])
  ·rcases List.mem_append.1 hx with g | g
   ·have := hc x (by simp [g]); omega
   ·rcases List.mem_cons.1 g with rfl | g
    ·have := hc e (by simp); simp only; omega
    ·have := hc x (by simp [g]); omega
theorem MS.del {m : Nat} {A B : List En} {e : En} {S : HS} (h : MS m (A ++ e :: B) S) (hA : ∀ a ∈ A,a.key ≠ e.key) :
  ∃ S',S.mdel (some m) (KS.kv e.key) = some S' ∧ MS m (A ++ B) S' ∧ Chg (OM m (A ++ e :: B)) (OM m (A ++ B)) S S' := by
 have hd := h.dis
 rw [List.pairwise_append,List.pairwise_cons] at hd
 have hn := h.nd
 rw [List.pairwise_append,List.pairwise_cons] at hn
 have hsub : ∀ x,x ∈ A ++ B → x ∈ A ++ e :: B := fun x hx => by
  rcases List.mem_append.1 hx with g | g <;> simp [g]
 refine ⟨S.put m (.map ((A ++ B).map ent)),?_,⟨put_here _ _ _,?_,fun x hx => (h.si x (hsub x hx)).keep (fun id ho => put_other _ (fun q => by subst q; exact h.nm x (hsub x hx) ho)) (Nat.le_refl _),?_,fun x hx => h.nm x (hsub x hx),h.lt⟩,⟨Nat.le_refl _,fun id _ g2 => put_other _ (fun q => g2 (.inl q)),fun id ho => .inl ?_⟩⟩
 ·simp only [HS.mdel,h.mp]
  rw [mf_at rfl 0 hA]
  simp only [Option.map_some,Nat.zero_add]
  congr 3
  rw [List.map_append,List.eraseIdx_append_of_length_le (by simp)]
  simp
 ·rw [List.pairwise_append]; exact ⟨hn.1,hn.2.1.2,fun a ha b hb => hn.2.2 a ha b (by simp [hb])⟩
 ·rw [List.pairwise_append]; exact ⟨hd.1,hd.2.1.2,fun a ha b hb => hd.2.2 a ha b (by simp [hb])⟩
 ·rcases ho with g | ⟨x,hx,g⟩
  ·exact .inl g
  ·exact .inr ⟨x,hsub x hx,g⟩
theorem take_spec {k m n : Nat} {E : List En} {key : Kk} {v : Vv} {S : HS} (hk : 2000 ≤ k) (h : MS m E S) (hne : ∀ e ∈ E,e.xs ≠ []) (hc : ∀ e ∈ E,e.xs.length ≤ n) (hm : mem E key v) :
  ∃ E' S',pair_take_string_int.f k (some m) key v S = some ((),S') ∧ MS m E' S' ∧ Chg (OM m E) (OM m E') S S' ∧ (∀ k' v',mem E' k' v' ↔ mem E k' v' ∧ ¬ (k' = key ∧ v' = v)) ∧ (∀ e ∈ E',e.xs ≠ []) ∧ (∀ e ∈ E',e.xs.length ≤ n) := by
 obtain ⟨e,he,hke,hve⟩ := hm
 obtain ⟨A,B,rfl,hA⟩ := split_at h.nd he hke
 subst hke
 have hi := h.si e he
 have hnd := h.nd
 rw [List.pairwise_append,List.pairwise_cons] at hnd
 have hkB : ∀ b ∈ B,b.key ≠ e.key := fun b hb g => hnd.2.1.1 b hb g.symm
 have hlk : S.look (some m) (KS.kv e.key) = some (some (.ptr (some (HA.cell0 e.p)))) := by
  rw [HS.look,HS.mp,h.mp,Option.bind_some,mf_at rfl 0 hA]; rfl
 have fl : Fr S.next S (S.lit [[.int .i64 v]] 1).2 := lit_fr _ (Nat.le_refl _)
 have nl : (S.lit [[.int .i64 v]] 1).2.next = S.next + 1 := rfl
 have rl : (S.lit [[.int .i64 v]] 1).2.rows (S.lit [[.int .i64 v]] 1).1 1 = some ([v].map KI.row1) := (Vec.lit (n := 0) (z := 1) (S := S) _ (Nat.zero_le _)).rows
 have ql : ∀ q,(S.lit [[.int .i64 v]] 1).1.a = some q → q.1 = S.next := fun q hq => by cases hq; rfl
 rw [pair_take_string_int.f]
 erw [hlk]
 rw [Option.bind_some,show dP ((some (HV.ptr (some (HA.cell0 e.p)))).getD (.ptr none)) = some (some (HA.cell0 e.p)) from rfl,Option.bind_some,letv]
 generalize S.lit [[.int .i64 v]] 1 = P at fl nl rl ql ⊢
 obtain ⟨sl,S1⟩ := P
 simp only at fl nl rl ql ⊢
 have h1 := h.fr fl
 obtain ⟨s',xs',S2,e2,i2,o2,m2,c2⟩ := KI.remove_spec hk (hi.fr fl) rl (fun q hq => by
  have := ql q hq
  exact ⟨by omega,fun g => by have := hi.lt g; omega⟩) (by simp)
 obtain ⟨g1,g2⟩ := h1.upd i2 o2
 have hlk2 : S2.look (some m) (KS.kv e.key) = some (some (.ptr (some (HA.cell0 e.p)))) := by
  rw [HS.look,HS.mp,g1.mp,Option.bind_some,mf_at (e := ⟨e.key,e.p,s',xs'⟩) rfl 0 hA]; rfl
 have hx : ∀ u,u ∈ xs' ↔ u ∈ e.xs ∧ u ≠ v := fun u => by rw [m2]; simp
 rw [e2,Option.bind_some]
 erw [hlk2]
 rw [Option.bind_some,show dP ((some (HV.ptr (some (HA.cell0 e.p)))).getD (.ptr none)) = some (some (HA.cell0 e.p)) from rfl,Option.bind_some,KI.len_spec i2,Option.bind_some]
 have hmem : ∀ k' v',mem (A ++ ⟨e.key,e.p,s',xs'⟩ :: B) k' v' ↔ mem (A ++ e :: B) k' v' ∧ ¬ (k' = e.key ∧ v' = v) := by
  intro k' v'
  constructor
  ·rintro ⟨x,hx1,hx2,hx3⟩
   rcases List.mem_append.1 hx1 with g | g
   ·exact ⟨⟨x,by simp [g],hx2,hx3⟩,fun q => hA x g (hx2.trans q.1)⟩
   ·rcases List.mem_cons.1 g with rfl | g
    ·have := (hx v').1 hx3
     exact ⟨⟨e,by simp,hx2,this.1⟩,fun q => this.2 q.2⟩
    ·exact ⟨⟨x,by simp [g],hx2,hx3⟩,fun q => hkB x g (hx2.trans q.1)⟩
  ·rintro ⟨⟨x,hx1,hx2,hx3⟩,hq⟩
   rcases List.mem_append.1 hx1 with g | g
   ·exact ⟨x,by simp [g],hx2,hx3⟩
   ·rcases List.mem_cons.1 g with rfl | g
    ·exact ⟨⟨x.key,x.p,s',xs'⟩,by simp,hx2,(hx v').2 ⟨hx3,fun q => hq ⟨hx2.symm,q⟩⟩⟩
    ·exact ⟨x,by simp [g],hx2,hx3⟩
 by_cases h0 : xs' = []
 ·subst h0
  obtain ⟨S3,e3,k1,k2⟩ := g1.del hA
  rw [if_pos (by simp)]
  erw [e3]
  rw [Option.bind_some]
  refine ⟨A ++ B,S3,rfl,k1,((Chg.of_fr fl).trans g2).trans k2,fun k' v' => ?_,fun x hx => ?_,fun x hx => ?_⟩
  ·rw [← hmem]
   constructor
   ·rintro ⟨x,q1,q2,q3⟩
    refine ⟨x,?_,q2,q3⟩
    rcases List.mem_append.1 q1 with g | g <;> simp [g]
   ·rintro ⟨x,q1,q2,q3⟩
    rcases List.mem_append.1 q1 with g | g
    ·exact ⟨x,by simp [g],q2,q3⟩
    ·rcases List.mem_cons.1 g with rfl | g
     ·cases q3
     ·exact ⟨x,by simp [g],q2,q3⟩
  ·rcases List.mem_append.1 hx with g | g <;> exact hne x (by simp [g])
  ·rcases List.mem_append.1 hx with g | g <;> exact hc x (by simp [g])
 ·rw [if_neg (by simpa using h0)]
  refine ⟨_,S2,rfl,g1,(Chg.of_fr fl).trans g2,hmem,fun x hx => ?_,fun x hx => ?_⟩
  ·rcases List.mem_append.1 hx with g | g
   ·exact hne x (by simp [g])
   ·rcases List.mem_cons.1 g with rfl | g
    ·exact h0
    ·exact hne x (by simp [g])
  ·rcases List.mem_append.1 hx with g | g
   ·exact hc x (by simp [g])
   ·rcases List.mem_cons.1 g with rfl | g
    ·have := hc e (by simp); simp only; omega
    ·exact hc x (by simp [g])
end MB
end Go.Proofs.YtbmfomkfmpppiaaGreat.X
namespace Go.Proofs.YtbmfomkfmpppiaaGreat.X
open Go.Proofs.YtbmfomkfmpppiaaGreat.HL
set_option linter.unusedVariables false
abbrev Pr := Int × List UInt8
def wo (x : Pr) (L : List Pr) : List Pr := L.filter fun p => !decide (p = x)
theorem wo_mem {x p : Pr} {L : List Pr} : p ∈ wo x L ↔ p ∈ L ∧ p ≠ x := by simp [wo]
theorem wo_len {x : Pr} {L : List Pr} (h : L.Nodup) (hx : x ∈ L) : (wo x L).length = L.length - 1 := by
 have : wo x L = L.erase x := by
  rw [h.erase_eq_filter,wo]
  congr 1
  funext p
  by_cases hp : p = x <;> simp [hp]
 rw [this,List.length_erase_of_mem hx]
theorem wo_no {x : Pr} {L : List Pr} (hx : x ∉ L) : wo x L = L := List.filter_eq_self.2 fun p hp => by simp; rintro rfl; exact hx hp
def OR (r m1 m2 : Nat) (E1 : List MA.En) (E2 : List MB.En) (id : Nat) : Prop := id = r ∨ MA.OM m1 E1 id ∨ MB.OM m2 E2 id
structure RelI (r m1 m2 n : Nat) (most : Int) (E1 : List MA.En) (E2 : List MB.En) (L : List Pr) (S : HS) : Prop where
 cell : S.heap r = .cells 4 [[.int .i64 most,.int .i64 L.length,.map (some m1),.map (some m2)]] true
 ms1 : MA.MS m1 E1 S
 ms2 : MB.MS m2 E2 S
 d12 : ∀ id,MA.OM m1 E1 id → ¬ MB.OM m2 E2 id
 dr1 : ¬ MA.OM m1 E1 r
 dr2 : ¬ MB.OM m2 E2 r
 lt : r < S.next
 me1 : ∀ a b,MA.mem E1 a b ↔ (a,b) ∈ L
 me2 : ∀ b a,MB.mem E2 b a ↔ (a,b) ∈ L
 ne1 : ∀ e ∈ E1,e.xs ≠ []
 ne2 : ∀ e ∈ E2,e.xs ≠ []
 c1 : ∀ e ∈ E1,e.xs.length ≤ n
 c2 : ∀ e ∈ E2,e.xs.length ≤ n
 nd : L.Nodup
 ll : L.length ≤ n
 nn : n ≤ 900
section
variable {r m1 m2 n : Nat} {most : Int} {E1 : List MA.En} {E2 : List MB.En} {L : List Pr} {S : HS}
theorem RelI.ltO (h : RelI r m1 m2 n most E1 E2 L S) {id : Nat} (ho : OR r m1 m2 E1 E2 id) : id < S.next := by
 rcases ho with rfl | g | g
 ·exact h.lt
 ·exact h.ms1.ltO g
 ·exact h.ms2.ltO g
theorem RelI.keep {S' : HS} (h : RelI r m1 m2 n most E1 E2 L S) (hk : ∀ id,OR r m1 m2 E1 E2 id → S'.heap id = S.heap id) (hn : S.next ≤ S'.next) : RelI r m1 m2 n most E1 E2 L S' :=
 ⟨(hk r (.inl rfl)).trans h.cell,h.ms1.keep (fun id g => hk id (.inr (.inl g))) hn,h.ms2.keep (fun id g => hk id (.inr (.inr g))) hn,h.d12,h.dr1,h.dr2,Nat.lt_of_lt_of_le h.lt hn,h.me1,h.me2,h.ne1,h.ne2,h.c1,h.c2,h.nd,h.ll,h.nn⟩
theorem RelI.fr {S' : HS} (h : RelI r m1 m2 n most E1 E2 L S) (hf : Fr S.next S S') : RelI r m1 m2 n most E1 E2 L S' := h.keep (fun id ho => hf.eq id (h.ltO ho)) hf.le
theorem RelI.mono {n' : Nat} (h : RelI r m1 m2 n most E1 E2 L S) (hn : n ≤ n') (hn' : n' ≤ 900) : RelI r m1 m2 n' most E1 E2 L S := { h with c1 := fun e he => Nat.le_trans (h.c1 e he) hn,c2 := fun e he => Nat.le_trans (h.c2 e he) hn,ll := Nat.le_trans h.ll hn,nn := hn' }
theorem RelI.ld1 (h : RelI r m1 m2 n most E1 E2 L S) : S.ldM (HA.fld (HA.cell0 r) 2) = some (some m1) := row_ldM (cell_row h.cell) rfl rfl
theorem RelI.ldm (h : RelI r m1 m2 n most E1 E2 L S) : S.ldI .i64 (HA.fld (HA.cell0 r) 0) = some most := row_ldI (cell_row h.cell) rfl rfl
theorem RelI.at1 (h : RelI r m1 m2 n most E1 E2 L S) (a : Int) : ∃ xs,KS.Srt xs ∧ (∀ v,v ∈ xs ↔ (a,v) ∈ L) ∧ xs.length ≤ n ∧ ((S.look (some m1) (.int .i64 a) = some none ∧ xs = []) ∨ ∃ p s,S.look (some m1) (.int .i64 a) = some (some (.ptr (some (HA.cell0 p)))) ∧ KS.SI p s xs S ∧ ∀ id,Own p s id → MA.OM m1 E1 id) := by
 rcases MA.get_spec h.ms1 a with ⟨e1,hno⟩ | ⟨A,e,B,hE,hk,hA,e1⟩
 ·refine ⟨[],List.Pairwise.nil,fun v => ?_,by simp,.inl ⟨e1,rfl⟩⟩
  rw [← h.me1]
  exact ⟨fun g => (by cases g),fun ⟨e,he,hk,_⟩ => absurd hk (hno e he)⟩
 ·have he : e ∈ E1 := by rw [hE]; simp
  refine ⟨e.xs,(h.ms1.si e he).srt,fun v => ?_,h.c1 e he,.inr ⟨e.p,e.s,e1,h.ms1.si e he,fun id g => .inr ⟨e,he,g⟩⟩⟩
  rw [← h.me1]
  refine ⟨fun g => ⟨e,he,hk,g⟩,fun ⟨x,hx,hxk,hv⟩ => ?_⟩
  have : x = e := by
   have hn := h.ms1.nd
   rw [hE] at hx hn
   rw [List.pairwise_append,List.pairwise_cons] at hn
   rcases List.mem_append.1 hx with g | g
   ·exact absurd hxk (hA x g)
   ·rcases List.mem_cons.1 g with g | g
    ·exact g
    ·exact absurd (hk.trans hxk.symm) (hn.2.1.1 x g)
  rw [← this]; exact hv
theorem dP_none : dP ((none : Option HV).getD (.ptr none)) = some none := rfl
theorem dP_some (q : Option HA) : dP ((some (HV.ptr q)).getD (.ptr none)) = some q := rfl
theorem has_rel {k : Nat} (hk : 2000 ≤ k) (h : RelI r m1 m2 n most E1 E2 L S) (a : Int) (b : List UInt8) : pair_Rel_int_string_Has.f k (some (HA.cell0 r)) a b S = some (decide ((a,b) ∈ L),S) := by
 obtain ⟨xs,h1,h2,h3,h4⟩ := h.at1 a
 rw [pair_Rel_int_string_Has.f,if_pos (by rfl),Option.bind_some,h.ld1,Option.bind_some]
 rcases h4 with ⟨e,rfl⟩ | ⟨p,s,e,hs,_⟩
 ·rw [e,Option.bind_some,dP_none,Option.bind_some,set_Set_string_Has.f,if_pos (by rfl),Option.bind_some,pair_Rel_int_string_Has.J0,decide_eq_false (fun g => by have := (h2 b).2 g; cases this)]
 ·rw [e,Option.bind_some,dP_some,Option.bind_some,KS.has_spec hk hs,Option.bind_some,pair_Rel_int_string_Has.J0]
  simp only [h2]
theorem count_rel (h : RelI r m1 m2 n most E1 E2 L S) (a : Int) {xs : List KS.Ky} (hs : KS.Srt xs) (hm : ∀ v,v ∈ xs ↔ (a,v) ∈ L) : pair_Rel_int_string_Count.f (some (HA.cell0 r)) a S = some ((xs.length : Int),S) := by
 obtain ⟨ys,h1,h2,h3,h4⟩ := h.at1 a
 have : ys = xs := KS.srt_ext h1 hs fun v => by rw [h2,hm]
 subst this
 rw [pair_Rel_int_string_Count.f,if_neg (by simp),Option.bind_some,h.ld1,Option.bind_some]
 rcases h4 with ⟨e,rfl⟩ | ⟨p,s,e,hs,_⟩
 ·rw [e,Option.bind_some,dP_none,Option.bind_some,set_Set_string_Len.f,if_pos (by rfl)]; rfl
 ·rw [e,Option.bind_some,dP_some,Option.bind_some,KS.len_spec hs]; rfl
theorem of_rel {nD : Nat} (h : RelI r m1 m2 n most E1 E2 L S) (a : Int) {xs : List KS.Ky} (hs : KS.Srt xs) (hm : ∀ v,v ∈ xs ↔ (a,v) ∈ L) : ∃ fn u v S1 K,pair_Rel_int_string_Of.f (some (HA.cell0 r)) a S = some (.fn fn u v,S1) ∧ Tells (disp 2000 (nD + 2)) (.fn fn u v) (xs.map KS.row1) K S1 ∧ (∀ id,K id → S.next ≤ id ∧ id < S1.next) ∧ Fr S.next S S1 := by
 obtain ⟨ys,h1,h2,h3,h4⟩ := h.at1 a
 have hy : ys = xs := KS.srt_ext h1 hs fun v => by rw [h2,hm]
 subst hy
 have hnn := h.nn
 have key : ∃ c s' S1,pair_Rel_int_string_Of.f (some (HA.cell0 r)) a S = some (.fn (.func 130) [] [.ptr (some (HA.cell0 c))],S1) ∧ S1.heap c = .cells 1 [[s'.hv]] true ∧ S1.rows s' 1 = some (ys.map KS.row1) ∧ (S.next ≤ c ∧ c < S1.next) ∧ (∀ q,s'.a = some q → S.next ≤ q.1 ∧ q.1 < S1.next) ∧ Fr S.next S S1 := by
  rw [pair_Rel_int_string_Of.f,if_neg (by simp),Option.bind_some,h.ld1,Option.bind_some]
  rcases h4 with ⟨e,rfl⟩ | ⟨p,s,e,hs,_⟩
  ·rw [e,Option.bind_some,dP_none,Option.bind_some,set_Set_string_All.f,set_Set_string_List.f,if_pos (by rfl),Option.bind_some,slices_Values_string_string.f,letv,Option.bind_some]
   exact ⟨S.next,_,_,rfl,new_here _ _,rfl,⟨Nat.le_refl _,Nat.lt_succ_self _⟩,fun q hq => (by cases hq),Fr.new (Nat.le_refl _) _⟩
  ·obtain ⟨c,s',S1,e2,g1,g2,g3,g4,g5⟩ := KS.all_spec hs
   rw [e,Option.bind_some,dP_some,Option.bind_some,e2,Option.bind_some]
   exact ⟨c,s',S1,rfl,g1,g2,g3,g4,g5⟩
 obtain ⟨c,s',S1,e,g1,g2,g3,g4,g5⟩ := key
 exact ⟨_,_,_,S1,fun id => id = c ∨ ∃ q,s'.a = some q ∧ q.1 = id,e,KS.values_tells (by omega) (by omega) g1 g2 _ ⟨.inl rfl,fun q hq => .inr ⟨q,hq,rfl⟩⟩,fun id hid => by
  rcases hid with rfl | ⟨q,hq,rfl⟩
  ·exact g3
  ·exact g4 q hq,g5⟩
theorem cnt_put {i : Int} {S : HS} {m1 m2 : Nat} (h : S.heap r = .cells 4 [[.int .i64 most,.int .i64 i,.map (some m1),.map (some m2)]] true) (j : Int) : S.sets (HA.fld (HA.cell0 r) 1) [.int .i64 j] = some (S.put r (.cells 4 [[.int .i64 most,.int .i64 j,.map (some m1),.map (some m2)]] true)) := (sets_row h rfl (by simp)).trans rfl
theorem RelI.step {n' : Nat} {E1' : List MA.En} {E2' : List MB.En} {L' : List Pr} {S1 S2 : HS} (h : RelI r m1 m2 n most E1 E2 L S) (h1 : MA.MS m1 E1' S1) (ch1 : Chg (MA.OM m1 E1) (MA.OM m1 E1') S S1) (h2 : MB.MS m2 E2' S2) (ch2 : Chg (MB.OM m2 E2) (MB.OM m2 E2') S1 S2)
  (me1 : ∀ a b,MA.mem E1' a b ↔ (a,b) ∈ L') (me2 : ∀ b a,MB.mem E2' b a ↔ (a,b) ∈ L') (ne1 : ∀ e ∈ E1',e.xs ≠ []) (ne2 : ∀ e ∈ E2',e.xs ≠ []) (c1 : ∀ e ∈ E1',e.xs.length ≤ n') (c2 : ∀ e ∈ E2',e.xs.length ≤ n') (nd : L'.Nodup) (ll : L'.length ≤ n') (nn : n' ≤ 900) :
  S2.heap r = S.heap r ∧ RelI r m1 m2 n' most E1' E2' L' (S2.put r (.cells 4 [[.int .i64 most,.int .i64 L'.length,.map (some m1),.map (some m2)]] true)) ∧ Chg (OR r m1 m2 E1 E2) (OR r m1 m2 E1' E2') S (S2.put r (.cells 4 [[.int .i64 most,.int .i64 L'.length,.map (some m1),.map (some m2)]] true)) := by
 have l1 := ch1.le
 have l2 := ch2.le
 have hr := h.lt
 have o1 : ∀ id,MA.OM m1 E1' id → ¬ MB.OM m2 E2 id := fun id g1 g2 => by
  rcases ch1.own id g1 with g | g
  ·exact h.d12 id g g2
  ·have := h.ms2.ltO g2; omega
 have d12 : ∀ id,MA.OM m1 E1' id → ¬ MB.OM m2 E2' id := fun id g1 g2 => by
  rcases ch2.own id g2 with g | g
  ·exact o1 id g1 g
  ·have := h1.ltO g1; omega
 have dr1 : ¬ MA.OM m1 E1' r := fun g => by
  rcases ch1.own r g with g' | g'
  ·exact h.dr1 g'
  ·omega
 have dr2 : ¬ MB.OM m2 E2' r := fun g => by
  rcases ch2.own r g with g' | g'
  ·exact h.dr2 g'
  ·omega
 refine ⟨(ch2.eq r (by omega) h.dr2).trans (ch1.eq r hr h.dr1),⟨put_here _ _ _,?_,?_,d12,dr1,dr2,by rw [put_next]; omega,me1,me2,ne1,ne2,c1,c2,nd,ll,nn⟩,⟨by rw [put_next]; omega,fun id g1 g2 => ?_,fun id g => ?_⟩⟩
 ·exact h1.keep (fun id g => by
   have := h1.ltO g
   rw [put_other _ (fun e => dr1 (by rw [← e]; exact g)),ch2.eq id this (o1 id g)]) (by rw [put_next]; omega)
 ·exact h2.keep (fun id g => put_other _ (fun e => dr2 (by rw [← e]; exact g))) (Nat.le_refl _)
 ·rw [put_other _ (fun e => g2 (.inl e)),ch2.eq id (by omega) (fun g => g2 (.inr (.inr g))),ch1.eq id g1 (fun g => g2 (.inr (.inl g)))]
 ·rcases g with g | g | g
  ·exact .inl (.inl g)
  ·exact (ch1.own id g).imp (fun g => .inr (.inl g)) (fun g => g)
  ·rcases ch2.own id g with g' | g'
   ·exact .inl (.inr (.inr g'))
   ·exact .inr (by omega)
theorem add_rel {k : Nat} (hk : 2000 ≤ k) (h : RelI r m1 m2 n most E1 E2 L S) (hn : n + 1 ≤ 900) (a : Int) (b : List UInt8) {xs : List KS.Ky} (hs : KS.Srt xs) (hm : ∀ v,v ∈ xs ↔ (a,v) ∈ L) :
  ∃ E1' E2' S',pair_Rel_int_string_Add.f k (some (HA.cell0 r)) a b S = some ((if (a,b) ∈ L then 6 else if most ≤ xs.length then 7 else 0),S') ∧ RelI r m1 m2 (n + 1) most E1' E2' (if (a,b) ∈ L then L else if most ≤ xs.length then L else L ++ [(a,b)]) S' ∧ Chg (OR r m1 m2 E1 E2) (OR r m1 m2 E1' E2') S S' := by
 rw [pair_Rel_int_string_Add.f,if_neg (by simp),has_rel hk h,Option.bind_some]
 by_cases hin : (a,b) ∈ L
 ·simp only [hin,decide_true,if_true]
  exact ⟨E1,E2,S,rfl,h.mono (by omega) hn,Chg.refl _ _⟩
 ·simp only [hin,decide_false,if_false,Bool.false_eq_true]
  rw [count_rel h a hs hm,Option.bind_some,Option.bind_some]
  simp only [h.ldm,Option.bind_some,if_true]
  by_cases hf : most ≤ (xs.length : Int)
  ·simp only [if_pos (show (xs.length : Int) ≥ most from hf),if_pos hf]
   exact ⟨E1,E2,S,rfl,h.mono (by omega) hn,Chg.refl _ _⟩
  ·obtain ⟨E1',S1,e1,g1,g2,g3,g4,g5⟩ := MA.put_spec (v := b) (key := a) hk h.ms1 h.ne1 h.c1 (by omega)
   have l1 := g2.le
   have h2 : MB.MS m2 E2 S1 := h.ms2.keep (fun id g => g2.eq id (h.ms2.ltO g) (fun g' => h.d12 id g' g)) l1
   obtain ⟨E2',S2,e2,k1,k2,k3,k4,k5⟩ := MB.put_spec (v := a) (key := b) hk h2 h.ne2 h.c2 (by omega)
   have hcell1 : S1.heap r = S.heap r := g2.eq r h.lt h.dr1
   obtain ⟨q1,q2,q3⟩ := h.step (L' := L ++ [(a,b)]) g1 g2 k1 k2 (fun a' b' => by rw [g3,h.me1]; simp) (fun b' a' => by rw [k3,h.me2]; simp [and_comm]) g4 k4 g5 k5 (by
    rw [List.nodup_append]
    exact ⟨h.nd,by simp,fun x hx y hy => by simp at hy; subst hy; intro e; subst e; exact hin hx⟩) (by simp; exact h.ll) hn
   have hld2 : S1.ldM (HA.fld (HA.cell0 r) 3) = some (some m2) := row_ldM (cell_row (hcell1.trans h.cell)) rfl rfl
   have hcell2 := q1.trans h.cell
   have hldn : S2.ldI .i64 (HA.fld (HA.cell0 r) 1) = some (L.length : Int) := row_ldI (cell_row hcell2) rfl rfl
   have hll := h.ll
   simp only [if_neg (show ¬ ((xs.length : Int) ≥ most) from hf),if_neg hf,h.ld1,Option.bind_some,e1,hld2,e2,hldn]
   rw [w64_id (by omega) (by omega),cnt_put hcell2,Option.bind_some,show ((L.length : Int) + 1) = ((L ++ [(a,b)]).length : Int) by simp]
   exact ⟨E1',E2',_,rfl,q2,q3⟩
theorem remove_rel {k : Nat} (hk : 2000 ≤ k) (h : RelI r m1 m2 n most E1 E2 L S) (a : Int) (b : List UInt8) :
  ∃ E1' E2' S',pair_Rel_int_string_Remove.f k (some (HA.cell0 r)) a b S = some (decide ((a,b) ∈ L),S') ∧ RelI r m1 m2 n most E1' E2' (wo (a,b) L) S' ∧ Chg (OR r m1 m2 E1 E2) (OR r m1 m2 E1' E2') S S' := by
 rw [pair_Rel_int_string_Remove.f,has_rel hk h,Option.bind_some]
 by_cases hin : (a,b) ∈ L
 ·simp only [hin,decide_true,Bool.not_true,Bool.false_eq_true,if_false]
  obtain ⟨E1',S1,e1,g1,g2,g3,g4,g5⟩ := MA.take_spec (v := b) (key := a) hk h.ms1 h.ne1 h.c1 ((h.me1 a b).2 hin)
  have l1 := g2.le
  have h2 : MB.MS m2 E2 S1 := h.ms2.keep (fun id g => g2.eq id (h.ms2.ltO g) (fun g' => h.d12 id g' g)) l1
  obtain ⟨E2',S2,e2,k1,k2,k3,k4,k5⟩ := MB.take_spec (v := a) (key := b) hk h2 h.ne2 h.c2 ((h.me2 b a).2 hin)
  have hcell1 : S1.heap r = S.heap r := g2.eq r h.lt h.dr1
  have hfl := wo_len h.nd hin
  have hpos : 0 < L.length := List.length_pos_of_mem hin
  have hll := h.ll
  have hnn := h.nn
  obtain ⟨q1,q2,q3⟩ := h.step (n' := n) (L' := wo (a,b) L) g1 g2 k1 k2 (fun a' b' => by rw [g3,h.me1,wo_mem,Ne,Prod.mk.injEq]) (fun b' a' => by rw [k3,h.me2,wo_mem,Ne,Prod.mk.injEq]; simp only [and_comm]) g4 k4 g5 k5 (h.nd.sublist List.filter_sublist) (by omega) h.nn
  have hld2 : S1.ldM (HA.fld (HA.cell0 r) 3) = some (some m2) := row_ldM (cell_row (hcell1.trans h.cell)) rfl rfl
  have hcell2 := q1.trans h.cell
  have hldn : S2.ldI .i64 (HA.fld (HA.cell0 r) 1) = some (L.length : Int) := row_ldI (cell_row hcell2) rfl rfl
  simp only [h.ld1,Option.bind_some,e1,hld2,e2,hldn]
  rw [w64_id (by omega) (by omega),cnt_put hcell2,Option.bind_some,show ((L.length : Int) - 1) = ((wo (a,b) L).length : Int) by rw [hfl]; omega]
  exact ⟨E1',E2',_,rfl,q2,q3⟩
 ·simp only [hin,decide_false,Bool.not_false,if_true]
  refine ⟨E1,E2,S,rfl,?_,Chg.refl _ _⟩
  rw [wo_no hin]
  exact h
end
end Go.Proofs.YtbmfomkfmpppiaaGreat.X
namespace Go.Proofs.YtbmfomkfmpppiaaGreat.X
open Go.Proofs.YtbmfomkfmpppiaaGreat.HL
set_option linter.unusedVariables false
def low (b : UInt8) : UInt8 := if 65 ≤ b.toNat ∧ b.toNat ≤ 93 then b + 32 else if b.toNat = 126 then 94 else b
theorem all_bytes {p : UInt8 → Prop} (h : ∀ n : Fin 256,p (UInt8.ofNat n.val)) (b : UInt8) : p b := by
 have := h ⟨b.toNat,b.toNat_lt⟩
 simpa using this
theorem byte_spec (b : UInt8) : fold_Byte.f (b.toNat : Int) = some ((low b).toNat : Int) :=
 all_bytes (p := fun b => fold_Byte.f (b.toNat : Int) = some ((low b).toNat : Int)) (by decide +kernel) b
theorem low_low (b : UInt8) : low (low b) = low b := all_bytes (p := fun b => low (low b) = low b) (by decide +kernel) b
def look (y : Nat) : List UInt8 → List UInt8 → Nat
 | a :: s,b :: t => if a.toNat = y then b.toNat else look y s t
 | _,_ => y
theorem refByte_loop {k y : Nat} {src dst : List UInt8} (hl : dst.length = src.length) (hs : src.length ≤ 100000) : ∀ (n i : Nat),src.length - i < n → i ≤ src.length →
  rollcallref01_Byte.L0 k n y src dst (i : Int) = some (look y (src.drop i) (dst.drop i) : Int) := by
 intro n
 induction n with
 | zero => intro i h; omega
 | succ n ih =>
  intro i h hi
  unfold rollcallref01_Byte.L0
  by_cases hlt : i < src.length
  ·rw [if_pos (by omega),sat_lt hlt,Option.bind_some,List.drop_eq_getElem_cons hlt,List.drop_eq_getElem_cons (show i < dst.length by omega)]
   by_cases he : src[i].toNat = y
   ·rw [if_pos (by omega),sat_lt (show i < dst.length by omega)]
    simp [look,he]
   ·rw [if_neg (by omega),w64_id (by omega) (by omega)]
    have := ih (i + 1) (by omega) (by omega)
    rw [show ((i : Int) + 1) = ((i + 1 : Nat) : Int) by simp,this]
    simp [look,he]
  ·rw [if_neg (by omega),List.drop_eq_nil_of_le (by omega)]
   simp [look]
theorem refByte_spec {k : Nat} (hk : 31 ≤ k) (b : UInt8) : rollcallref01_Byte.f k (b.toNat : Int) = some ((low b).toNat : Int) := by
 unfold rollcallref01_Byte.f
 have := refByte_loop (k := k) (y := b.toNat) (src := [65,66,67,68,69,70,71,72,73,74,75,76,77,78,79,80,81,82,83,84,85,86,87,88,89,90,91,93,92,126]) (dst := [97,98,99,100,101,102,103,104,105,106,107,108,109,110,111,112,113,114,115,116,117,118,119,120,121,122,123,125,124,94]) rfl (by decide) k 0 (by simp; omega) (by simp)
 refine this.trans ?_
 congr 2
 exact all_bytes (p := fun b => look b.toNat (List.drop 0 [65,66,67,68,69,70,71,72,73,74,75,76,77,78,79,80,81,82,83,84,85,86,87,88,89,90,91,93,92,126]) (List.drop 0 [97,98,99,100,101,102,103,104,105,106,107,108,109,110,111,112,113,114,115,116,117,118,119,120,121,122,123,125,124,94]) = (low b).toNat) (by decide +kernel) b
theorem row_of (b : UInt8) : [[HV.int .u8 (b.toNat : Int)]] = bytesRows [b] := rfl
theorem take_succ_map {x : List UInt8} {i : Nat} (h : i < x.length) : (x.take (i + 1)).map low = (x.take i).map low ++ [low x[i]] := by
 rw [List.take_succ_eq_append_getElem h,List.map_append]; rfl
theorem text_loop {k m : Nat} {x : List UInt8} (hx : x.length ≤ 100000) : ∀ (n i : Nat) (s : Sl) (S : HS),x.length - i < n → i ≤ x.length → m ≤ S.next → Vec m S 1 s (bytesRows ((x.take i).map low)) →
  ∃ S',fold_Text.L0 k n x s (x.length : Int) (i : Int) S = some (x.map low,S') ∧ Fr m S S' := by
 intro n
 induction n with
 | zero => intro i s S h; omega
 | succ n ih =>
  intro i s S h hi hm hv
  unfold fold_Text.L0
  by_cases hlt : i < x.length
  ·rw [if_pos (by omega),sat_lt hlt,Option.bind_some,byte_spec,Option.bind_some,letv,row_of]
   have hl := Vec.lit (n := m) (z := 1) (S := S) (bytesRows [low x[i]]) hm
   rw [hl.rows,Option.bind_some]
   have hv2 : Vec m (S.lit (bytesRows [low x[i]]) 1).2 1 s (bytesRows ((x.take i).map low)) := hv.new _
   obtain ⟨s',S',e,hv3,hf⟩ := hv2.app (new := bytesRows [low x[i]]) (Nat.le_trans hm (lit_fr (n := 0) _ (Nat.zero_le _)).le) (by simp [bytesRows]; omega)
   rw [e,Option.bind_some,w64_id (by omega) (by omega),show ((i : Int) + 1) = ((i + 1 : Nat) : Int) by simp]
   rw [← bytesRows_app,← take_succ_map hlt] at hv3
   have hf0 := (lit_fr (n := m) (z := 1) (S := S) (bytesRows [low x[i]]) hm).trans hf
   obtain ⟨S2,e2,hf2⟩ := ih (i + 1) s' S' (by omega) (by omega) (Nat.le_trans hm hf0.le) hv3
   exact ⟨S2,e2,hf0.trans hf2⟩
  ·obtain rfl : i = x.length := by omega
   rw [List.take_length] at hv
   rw [if_neg (by omega),hv.text]
   exact ⟨S,rfl,Fr.refl _ _⟩
theorem text_spec {k m : Nat} {x : List UInt8} {S : HS} (hx : x.length ≤ 100000) (hk : x.length < k) (hm : m ≤ S.next) : ∃ S',fold_Text.f k x S = some (x.map low,S') ∧ Fr m S S' := by
 unfold fold_Text.f
 obtain ⟨s,S1,e,hv,hf⟩ := Vec.make (n := m) (S := S) (c := x.length) (zr := [.int .u8 0]) hm (by omega) (by omega)
 rw [e,Option.bind_some]
 obtain ⟨S2,e2,hf2⟩ := text_loop (k := k) (m := m) hx k 0 s S1 (by omega) (by omega) (Nat.le_trans hm hf.le) hv
 exact ⟨S2,e2,hf.trans hf2⟩
theorem refText_loop {k m : Nat} {x : List UInt8} (hx : x.length ≤ 100000) (hk : 31 ≤ k) : ∀ (n i : Nat) (S : HS),x.length - i < n → i ≤ x.length → m ≤ S.next →
  ∃ S',rollcallref01_Text.L0 k n x ((x.take i).map low) (i : Int) S = some (x.map low,S') ∧ Fr m S S' := by
 intro n
 induction n with
 | zero => intro i S h; omega
 | succ n ih =>
  intro i S h hi hm
  unfold rollcallref01_Text.L0
  by_cases hlt : i < x.length
  ·rw [if_pos (by omega),sat_lt hlt,Option.bind_some,refByte_spec hk,Option.bind_some,letv,row_of]
   have hl := Vec.lit (n := m) (z := 1) (S := S) (bytesRows [low x[i]]) hm
   rw [hl.text,Option.bind_some,if_pos (by simp; omega),w64_id (by omega) (by omega),show ((i : Int) + 1) = ((i + 1 : Nat) : Int) by simp,← take_succ_map hlt]
   have hf0 := lit_fr (n := m) (z := 1) (S := S) (bytesRows [low x[i]]) hm
   obtain ⟨S2,e2,hf2⟩ := ih (i + 1) _ (by omega) (by omega) (Nat.le_trans hm hf0.le)
   exact ⟨S2,e2,hf0.trans hf2⟩
  ·rw [if_neg (by omega),show i = x.length by omega,List.take_length]
   exact ⟨S,rfl,Fr.refl _ _⟩
theorem refText_spec {k m : Nat} {x : List UInt8} {S : HS} (hx : x.length ≤ 100000) (hk : x.length < k) (hk2 : 31 ≤ k) (hm : m ≤ S.next) : ∃ S',rollcallref01_Text.f k x S = some (x.map low,S') ∧ Fr m S S' :=
 refText_loop hx hk2 k 0 S (by omega) (by omega) hm
end Go.Proofs.YtbmfomkfmpppiaaGreat.X
namespace Go.Proofs.YtbmfomkfmpppiaaGreat.X
open Go.Proofs.YtbmfomkfmpppiaaGreat.HL
set_option linter.unusedVariables false
def cmpL : List UInt8 → List UInt8 → Int
 | [],[] => 0
 | [],_ :: _ => -1
 | _ :: _,[] => 1
 | a :: s,b :: t => if (low a).toNat < (low b).toNat then -1 else if (low b).toNat < (low a).toNat then 1 else cmpL s t
theorem compare_loop {k : Nat} {x y : List UInt8} (hx : x.length ≤ 100000) : ∀ (n i : Nat),min x.length y.length - i < n → i ≤ min x.length y.length →
  fold_Compare.L0 k n x y (min x.length y.length : Nat) (i : Int) = some (cmpL (x.drop i) (y.drop i)) := by
 intro n
 induction n with
 | zero => intro i h; omega
 | succ n ih =>
  intro i h hi
  unfold fold_Compare.L0
  by_cases hlt : i < min x.length y.length
  ·have h1 : i < x.length := by omega
   have h2 : i < y.length := by omega
   rw [if_pos (by omega),sat_lt h1,Option.bind_some,byte_spec,Option.bind_some,sat_lt h2,Option.bind_some,byte_spec,Option.bind_some,List.drop_eq_getElem_cons h1,List.drop_eq_getElem_cons h2,cmpL]
   by_cases c1 : (low x[i]).toNat < (low y[i]).toNat
   ·rw [if_pos (by omega),if_pos c1]
   ·rw [if_neg (by omega),if_neg c1]
    by_cases c2 : (low y[i]).toNat < (low x[i]).toNat
    ·rw [if_pos (by omega),if_pos c2]
    ·rw [if_neg (by omega),if_neg c2,w64_id (by omega) (by omega),show ((i : Int) + 1) = ((i + 1 : Nat) : Int) by simp]
     exact ih (i + 1) (by omega) (by omega)
  ·rw [if_neg (by omega)]
   by_cases c1 : x.length < y.length
   ·rw [if_pos (by omega),List.drop_eq_nil_of_le (show x.length ≤ i by omega),List.drop_eq_getElem_cons (show i < y.length by omega),cmpL]
   ·rw [if_neg (by omega)]
    by_cases c2 : y.length < x.length
    ·rw [if_pos (by omega),List.drop_eq_nil_of_le (show y.length ≤ i by omega),List.drop_eq_getElem_cons (show i < x.length by omega),cmpL]
    ·rw [if_neg (by omega),List.drop_eq_nil_of_le (show y.length ≤ i by omega),List.drop_eq_nil_of_le (show x.length ≤ i by omega),cmpL]
theorem compare_spec {k : Nat} {x y : List UInt8} (hx : x.length ≤ 100000) (hk : x.length < k) : fold_Compare.f k x y = some (cmpL x y) := by
 unfold fold_Compare.f
 have := compare_loop (k := k) (y := y) hx k 0 (by omega) (by omega)
 rw [show mn (x.length : Int) (y.length : Int) = ((min x.length y.length : Nat) : Int) by unfold mn; split <;> omega]
 simpa using this
theorem cmpL_zero : ∀ (x y : List UInt8),cmpL x y = 0 ↔ x.map low = y.map low := by
 intro x
 induction x with
 | nil => intro y; cases y <;> simp [cmpL]
 | cons a s ih =>
  intro y
  cases y with
  | nil => simp [cmpL]
  | cons b t =>
   simp only [cmpL,List.map_cons,List.cons.injEq]
   by_cases c1 : (low a).toNat < (low b).toNat
   ·rw [if_pos c1]
    constructor
    ·intro h; omega
    ·intro h; rw [h.1] at c1; omega
   ·rw [if_neg c1]
    by_cases c2 : (low b).toNat < (low a).toNat
    ·rw [if_pos c2]
     constructor
     ·intro h; omega
     ·intro h; rw [h.1] at c2; omega
    ·rw [if_neg c2,ih]
     constructor
     ·intro h; exact ⟨UInt8.toNat_inj.1 (by omega),h⟩
     ·intro h; exact h.2
theorem cmpL_slt : ∀ (x y : List UInt8),cmpL x y = if slt (x.map low) (y.map low) = true then -1 else if x.map low = y.map low then 0 else 1 := by
 intro x
 induction x with
 | nil => intro y; cases y <;> simp [cmpL,slt]
 | cons a s ih =>
  intro y
  cases y with
  | nil => simp [cmpL,slt]
  | cons b t =>
   simp only [cmpL,List.map_cons,slt,Bool.or_eq_true,decide_eq_true_eq,Bool.and_eq_true,beq_iff_eq,UInt8.lt_iff_toNat_lt,List.cons.injEq]
   by_cases c1 : (low a).toNat < (low b).toNat
   ·simp [c1]
   ·by_cases c2 : (low b).toNat < (low a).toNat
    ·have hne : low a ≠ low b := fun h => by rw [h] at c2; omega
     simp [c1,c2,hne]
    ·have heq : low a = low b := UInt8.toNat_inj.1 (by omega)
     rw [ih]
     simp [c1,c2,heq]
theorem refCompare_spec {k m : Nat} {x y : List UInt8} {S : HS} (hx : x.length ≤ 1000) (hy : y.length ≤ 1000) (hk : 2000 ≤ k) (hm : m ≤ S.next) : ∃ S',rollcallref01_Compare.f k x y S = some (cmpL x y,S') ∧ Fr m S S' := by
 unfold rollcallref01_Compare.f
 obtain ⟨S1,e1,f1⟩ := refText_spec (k := k) (m := m) (x := x) (S := S) (by omega) (by omega) (by omega) hm
 obtain ⟨S2,e2,f2⟩ := refText_spec (k := k) (m := m) (x := y) (S := S1) (by omega) (by omega) (by omega) (Nat.le_trans hm f1.le)
 refine ⟨S2,?_,f1.trans f2⟩
 rw [e1,Option.bind_some,e2,Option.bind_some,cmpL_slt]
 by_cases c1 : slt (x.map low) (y.map low) = true
 ·rw [if_pos c1,if_pos c1]
 ·rw [if_neg c1,if_neg c1]
  by_cases c2 : x.map low = y.map low
  ·rw [if_neg (by simp [c2]),if_pos c2]
  ·rw [if_pos (by simp [c1,c2]),if_neg c2]
theorem cmpL_anti : ∀ (x y : List UInt8),cmpL y x = - cmpL x y := by
 intro x
 induction x with
 | nil => intro y; cases y <;> simp [cmpL]
 | cons a s ih =>
  intro y
  cases y with
  | nil => simp [cmpL]
  | cons b t =>
   simp only [cmpL]
   by_cases c1 : (low a).toNat < (low b).toNat
   ·simp [c1,show ¬ (low b).toNat < (low a).toNat by omega]
   ·by_cases c2 : (low b).toNat < (low a).toNat
    ·simp [c1,c2]
    ·simp [c1,c2,ih]
theorem cmpL_trans : ∀ (x y z : List UInt8),cmpL x y ≤ 0 → cmpL y z ≤ 0 → cmpL x z ≤ 0 := by
 intro x
 induction x with
 | nil => intro y z _ _; cases z <;> simp [cmpL]
 | cons a s ih =>
  intro y z h1 h2
  cases y with
  | nil => simp [cmpL] at h1
  | cons b t =>
   cases z with
   | nil => simp [cmpL] at h2
   | cons c u =>
    simp only [cmpL] at h1 h2 ⊢
    by_cases c1 : (low b).toNat < (low a).toNat
    ·rw [if_neg (by omega),if_pos c1] at h1; omega
    by_cases c2 : (low c).toNat < (low b).toNat
    ·rw [if_neg (by omega),if_pos c2] at h2; omega
    by_cases c3 : (low a).toNat < (low c).toNat
    ·rw [if_pos c3]; omega
    ·rw [if_neg c3,if_neg (by omega)]
     rw [if_neg (by omega),if_neg c1] at h1
     rw [if_neg (by omega),if_neg c2] at h2
     exact ih _ _ h1 h2
namespace BK
theorem cmpL_lt_trans {a b c : List UInt8} (h1 : cmpL a b < 0) (h2 : cmpL b c < 0) : cmpL a c < 0 := by
 have h3 := cmpL_trans a b c (by omega) (by omega)
 rcases Int.lt_or_eq_of_le h3 with h | h
 ·exact h
 ·have h4 : cmpL c a = 0 := by rw [cmpL_anti a c,h]; rfl
  have h5 := cmpL_trans b c a (by omega) (by omega)
  rw [cmpL_anti a b] at h5
  omega
theorem cmpL_eq_left {a b c : List UInt8} (h : cmpL a b = 0) : cmpL a c = cmpL b c := by
 rw [cmpL_zero] at h
 rw [cmpL_slt,cmpL_slt,h]
theorem cmpL_eq_right {a b c : List UInt8} (h : cmpL a b = 0) : cmpL c a = cmpL c b := by
 rw [cmpL_anti a c,cmpL_anti b c,cmpL_eq_left h]
abbrev En := List UInt8 × Option HA
def enRow (e : En) : List HV := [.str e.1,.ptr e.2]
def Srt (es : List En) : Prop := es.Pairwise fun a b => cmpL a.1 b.1 < 0
theorem Srt.lt {es : List En} (h : Srt es) {i j : Nat} (hi : i < es.length) (hj : j < es.length) (hij : i < j) : cmpL es[i].1 es[j].1 < 0 := List.pairwise_iff_getElem.1 h i j hi hj hij
structure PosOf (es : List En) (t : List UInt8) (p : Nat) : Prop where
 le : p ≤ es.length
 lo : ∀ q (hq : q < es.length),q < p → cmpL es[q].1 t < 0
 hi : ∀ q (hq : q < es.length),p ≤ q → ¬ cmpL es[q].1 t < 0
def foundAt (es : List En) (t : List UInt8) (p : Nat) : Bool := match es[p]? with | some e => decide (cmpL e.1 t = 0) | none => false
theorem PosOf.gt {es : List En} {t : List UInt8} {p : Nat} (h : PosOf es t p) (hs : Srt es) (hf : foundAt es t p = false) {q : Nat} (hq : q < es.length) (hpq : p ≤ q) : cmpL t es[q].1 < 0 := by
 have hp : p < es.length := by omega
 have h1 := h.hi p hp (Nat.le_refl _)
 have h2 : cmpL es[p].1 t ≠ 0 := by
  simp only [foundAt,List.getElem?_eq_getElem hp,decide_eq_false_iff_not] at hf
  exact hf
 have h3 : cmpL t es[p].1 < 0 := by rw [cmpL_anti]; omega
 rcases Nat.eq_or_lt_of_le hpq with e | e
 ·subst e; exact h3
 ·exact cmpL_lt_trans h3 (hs.lt hp hq e)
theorem ins_srt {es : List En} {t : List UInt8} {p : Nat} (h : PosOf es t p) (hs : Srt es) (hf : foundAt es t p = false) (v : Option HA) : Srt (es.take p ++ [(t,v)] ++ es.drop p) := by
 unfold Srt
 rw [List.append_assoc,List.pairwise_append]
 refine ⟨List.Pairwise.sublist (List.take_sublist _ _) hs,?_,fun a ha b hb => ?_⟩
 ·rw [List.singleton_append,List.pairwise_cons]
  refine ⟨fun b hb => ?_,List.Pairwise.sublist (List.drop_sublist _ _) hs⟩
  obtain ⟨q,hq,rfl⟩ := List.getElem_of_mem hb
  rw [List.getElem_drop]
  exact h.gt hs hf _ (by omega)
 ·obtain ⟨q,hq,rfl⟩ := List.getElem_of_mem ha
  rw [List.length_take] at hq
  rw [List.getElem_take]
  have h1 := h.lo q (by omega) (by omega)
  rcases List.mem_append.1 hb with hb | hb
  ·simp only [List.mem_singleton] at hb
   subst hb; exact h1
  ·obtain ⟨q2,hq2,rfl⟩ := List.getElem_of_mem hb
   rw [List.getElem_drop]
   rw [List.length_drop] at hq2
   exact hs.lt (by omega) (by omega) (by omega)
theorem set_srt {es : List En} {t : List UInt8} {p : Nat} (hs : Srt es) (hf : foundAt es t p = true) (v : Option HA) : Srt (es.set p (t,v)) := by
 have hp : p < es.length := by
  unfold foundAt at hf
  cases he : es[p]? with
  | none => rw [he] at hf; cases hf
  | some e => exact (List.getElem?_eq_some_iff.1 he).1
 have h0 : cmpL es[p].1 t = 0 := by
  simp only [foundAt,List.getElem?_eq_getElem hp,decide_eq_true_eq] at hf
  exact hf
 refine List.pairwise_iff_getElem.2 fun i j hi hj hij => ?_
 rw [List.length_set] at hi hj
 rw [List.getElem_set,List.getElem_set]
 have := hs.lt hi hj hij
 split
 ·rename_i e
  subst e
  rw [if_neg (by omega)]
  rw [← cmpL_eq_left h0]; exact this
 ·split
  ·rename_i e
   subst e
   rw [← cmpL_eq_right h0]; exact this
  ·exact this
theorem erase_srt {es : List En} (hs : Srt es) (p : Nat) : Srt (es.eraseIdx p) := List.Pairwise.sublist (List.eraseIdx_sublist _ _) hs
theorem erase_away {es : List En} {t : List UInt8} {p : Nat} (hs : Srt es) (hf : foundAt es t p = true) : ∀ e ∈ es.eraseIdx p,e ∈ es ∧ cmpL t e.1 ≠ 0 := by
 have hp : p < es.length := by
  unfold foundAt at hf
  cases he : es[p]? with
  | none => rw [he] at hf; cases hf
  | some e => exact (List.getElem?_eq_some_iff.1 he).1
 have h0 : cmpL es[p].1 t = 0 := by
  simp only [foundAt,List.getElem?_eq_getElem hp,decide_eq_true_eq] at hf
  exact hf
 intro e he
 rw [List.mem_eraseIdx_iff_getElem] at he
 obtain ⟨q,hq,hne,rfl⟩ := he
 refine ⟨List.getElem_mem hq,fun hc => ?_⟩
 have h1 : cmpL es[p].1 es[q].1 = 0 := by rw [cmpL_eq_left h0]; exact hc
 rcases Nat.lt_or_ge p q with h | h
 ·have := hs.lt hp hq h; omega
 ·have h2 := hs.lt hq hp (by omega)
  rw [cmpL_anti] at h1; omega
theorem none_alike {es : List En} {t : List UInt8} {p : Nat} (h : PosOf es t p) (hs : Srt es) (hf : foundAt es t p = false) : ∀ e ∈ es,cmpL t e.1 ≠ 0 := by
 intro e he hc
 obtain ⟨q,hq,rfl⟩ := List.getElem_of_mem he
 rcases Nat.lt_or_ge q p with h1 | h1
 ·have := h.lo q hq h1; rw [cmpL_anti] at hc; omega
 ·have := h.gt hs hf hq h1; omega
end BK
end Go.Proofs.YtbmfomkfmpppiaaGreat.X
namespace Go.Proofs.YtbmfomkfmpppiaaGreat.X
open Go.Proofs.YtbmfomkfmpppiaaGreat.HL
set_option linter.unusedVariables false
namespace BK
def CmpF (D : Dp) (H : Hd) (fv : HV) (t : List UInt8) : Prop := ∀ (e : En) (S : HS),e.1.length ≤ 1000 → ∃ S',D H fv [.agg (enRow e),.str t] S = some (.int .i64 (cmpL e.1 t),S') ∧ Fr S.next S S'
theorem cmpF {k n : Nat} {H : Hd} {t : List UInt8} (hk : 2000 ≤ k) : CmpF (disp k (n + 1)) H (HV.fn (.func 103) [] []) t := by
 intro e S he
 have hcell : (S.new (.cells 2 [[.str e.1,.ptr e.2]] true)).heap S.next = .cells 2 [[.str e.1,.ptr e.2]] true := new_here _ _
 refine ⟨S.new (.cells 2 [[.str e.1,.ptr e.2]] true),?_,Fr.new (Nat.le_refl _) _⟩
 have e' : call_103 (disp k n) H k ([] ++ [HV.agg (enRow e),.str t] ++ []) S = some (.int .i64 (cmpL e.1 t),S.new (.cells 2 [[.str e.1,.ptr e.2]] true)) := by
  rw [call_103]
  simp only [List.nil_append,List.append_nil,args2,enRow,dA2,dS,dP,Option.bind_some,if_true]
  rw [book_Book_room_Room_at_1.f,letv,row_ldS (cell_row hcell) rfl rfl,Option.bind_some,compare_spec (by omega) (by omega),Option.bind_some]
  rfl
 rw [disp_func]
 simp only [if_true,if_false,e']
theorem en_rows {S : HS} {s : Sl} {xs : List En} (h : S.rows s 2 = some (xs.map enRow)) {i : Nat} (hi : i < xs.length) : ∃ ad,S.idx s (i : Int) 2 = some ad ∧ S.ldS (HA.fld ad 0) = some xs[i].1 ∧ S.ldP (HA.fld ad 1) = some xs[i].2 := by
 obtain ⟨ad,h1,h2,h3⟩ := rows_idx h (i := i) (by simpa using hi)
 rw [List.getElem_map] at h3
 exact ⟨ad,h1,row_ldS h3 h2 rfl,row_ldP h3 h2 rfl⟩
theorem search_loop {D : Dp} {H : Hd} {k : Nat} {s : Sl} {t : List UInt8} {fv : HV} {es : List En} (hc : CmpF D H fv t) (hs : Srt es) (hl : ∀ e ∈ es,e.1.length ≤ 1000) (hle : es.length ≤ 100000) :
  ∀ (n i j : Nat) (S : HS),j - i < n → i ≤ j → j ≤ es.length → Rd S.next S 2 s (es.map enRow) → (∀ q (hq : q < es.length),q < i → cmpL es[q].1 t < 0) → (∀ q (hq : q < es.length),j ≤ q → ¬ cmpL es[q].1 t < 0) →
  ∃ (p : Nat) (S' : HS),slices_BinarySearchFunc_book_entry_room_Room_book_entry_room_Room_string.L0 D H k n s t fv (es.length : Int) (i : Int) (j : Int) S = some (((p : Int),foundAt es t p),S') ∧ PosOf es t p ∧ Fr S.next S S' := by
 intro n
 induction n with
 | zero => intro i j S h; omega
 | succ n ih =>
  intro i j S hf hij hj hrd hlo hhi
  unfold slices_BinarySearchFunc_book_entry_room_Room_book_entry_room_Room_string.L0
  by_cases hlt : i < j
  ·rw [if_pos (by omega),mid_eq (by omega)]
   have hm : (i + j) / 2 < es.length := by omega
   obtain ⟨ad,a1,a2,a3⟩ := en_rows hrd.rows hm
   obtain ⟨S1,e1,f1⟩ := hc es[(i + j) / 2] S (hl _ (List.getElem_mem _))
   have hrd1 : Rd S1.next S1 2 s (es.map enRow) := (hrd.frame f1 (Nat.le_refl _)).mono f1.le
   have e1' : D H fv [HV.agg [HV.str es[(i + j) / 2].1,HV.ptr es[(i + j) / 2].2],HV.str t] S = some (.int .i64 (cmpL es[(i + j) / 2].1 t),S1) := e1
   rw [a1,Option.bind_some,a2,Option.bind_some,a3,Option.bind_some,e1',Option.bind_some]
   simp only [dI,if_true,Option.bind_some]
   by_cases hc0 : cmpL es[(i + j) / 2].1 t < 0
   ·rw [if_pos hc0,w64_id (by omega) (by omega),show ((((i + j) / 2 : Nat) : Int) + 1) = (((i + j) / 2 + 1 : Nat) : Int) by simp]
    obtain ⟨p,S2,e2,p2,f2⟩ := ih ((i + j) / 2 + 1) j S1 (by omega) (by omega) hj hrd1 (fun q hq hqi => by
     rcases Nat.lt_or_ge q ((i + j) / 2) with h | h
     ·exact cmpL_lt_trans (hs.lt hq hm h) hc0
     ·obtain rfl : q = (i + j) / 2 := by omega
      exact hc0) hhi
    exact ⟨p,S2,e2,p2,f1.trans (f2.mono f1.le)⟩
   ·rw [if_neg hc0]
    obtain ⟨p,S2,e2,p2,f2⟩ := ih i ((i + j) / 2) S1 (by omega) (by omega) (by omega) hrd1 hlo (fun q hq hqi => by
     rcases Nat.lt_or_ge ((i + j) / 2) q with h | h
     ·intro hcc
      exact hc0 (cmpL_lt_trans (hs.lt hm hq h) hcc)
     ·obtain rfl : q = (i + j) / 2 := by omega
      exact hc0)
    exact ⟨p,S2,e2,p2,f1.trans (f2.mono f1.le)⟩
  ·obtain rfl : i = j := by omega
   rw [if_neg (by omega)]
   have hp : PosOf es t i := ⟨hj,hlo,hhi⟩
   by_cases hend : i < es.length
   ·obtain ⟨ad,a1,a2,a3⟩ := en_rows hrd.rows hend
    obtain ⟨S1,e1,f1⟩ := hc es[i] S (hl _ (List.getElem_mem _))
    have e1' : D H fv [HV.agg [HV.str es[i].1,HV.ptr es[i].2],HV.str t] S = some (.int .i64 (cmpL es[i].1 t),S1) := e1
    rw [if_pos (by omega),a1,Option.bind_some,a2,Option.bind_some,a3,Option.bind_some,e1',Option.bind_some]
    simp only [dI,if_true,Option.bind_some,slices_BinarySearchFunc_book_entry_room_Room_book_entry_room_Room_string.J1]
    refine ⟨i,S1,?_,hp,f1⟩
    simp [foundAt,List.getElem?_eq_getElem hend]
   ·rw [if_neg (by omega),slices_BinarySearchFunc_book_entry_room_Room_book_entry_room_Room_string.J1]
    refine ⟨i,S,?_,hp,Fr.refl _ _⟩
    simp [foundAt,List.getElem?_eq_none (show es.length ≤ i by omega)]
structure BI (p : Nat) (s : Sl) (most : Int) (es : List En) (S : HS) : Prop where
 cell : S.heap p = .cells 2 [[.int .i64 most,s.hv]] true
 ov : OV S 2 s (es.map enRow)
 ne : ∀ q,s.a = some q → q.1 ≠ p
 hi : p < S.next
 srt : Srt es
 len : ∀ e ∈ es,e.1.length ≤ 1000
 cnt : es.length ≤ 1000
theorem BI.lt {p : Nat} {s : Sl} {most : Int} {es : List En} {S : HS} (h : BI p s most es S) {id : Nat} (ho : Own p s id) : id < S.next := by
 rcases ho with rfl | ⟨q,h1,rfl⟩
 ·exact h.hi
 ·exact h.ov.lt h1
theorem BI.keep {p : Nat} {s : Sl} {most : Int} {es : List En} {S S' : HS} (h : BI p s most es S) (he : ∀ id,Own p s id → S'.heap id = S.heap id) (hn : S.next ≤ S'.next) : BI p s most es S' :=
 ⟨(he p (.inl rfl)).trans h.cell,h.ov.keep (fun q hq => he q.1 (.inr ⟨q,hq,rfl⟩)) hn,h.ne,Nat.lt_of_lt_of_le h.hi hn,h.srt,h.len,h.cnt⟩
theorem BI.fr {p : Nat} {s : Sl} {most : Int} {es : List En} {S S' : HS} (h : BI p s most es S) (hf : Fr S.next S S') : BI p s most es S' := h.keep (fun id ho => hf.eq id (h.lt ho)) hf.le
theorem BI.row {p : Nat} {s : Sl} {most : Int} {es : List En} {S : HS} (h : BI p s most es S) : S.row (HA.cell0 p).id (HA.cell0 p).i = some [.int .i64 most,s.hv] := cell_row h.cell
theorem BI.slen {p : Nat} {s : Sl} {most : Int} {es : List En} {S : HS} (h : BI p s most es S) : s.len = es.length := by rw [h.ov.len]; simp
theorem BI.rd {p : Nat} {s : Sl} {most : Int} {es : List En} {S : HS} (h : BI p s most es S) : Rd S.next S 2 s (es.map enRow) := ⟨h.ov.rows,fun q hq => h.ov.lt hq⟩
theorem at_spec {k n p : Nat} {H : Hd} {s : Sl} {most : Int} {es : List En} {S : HS} (hk : 2000 ≤ k) (h : BI p s most es S) (t : List UInt8) :
  ∃ (i : Nat) (S' : HS),book_Book_room_Room_at.f (disp k (n + 1)) H k (some (HA.cell0 p)) t S = some (((i : Int),foundAt es t i),S') ∧ PosOf es t i ∧ Fr S.next S S' := by
 obtain ⟨i,S',e,h1,h2⟩ := search_loop (k := k) (fv := HV.fn (.func 103) [] []) (cmpF (n := n) (H := H) (t := t) (show 2000 ≤ k by omega)) h.srt h.len (by have := h.cnt; omega) k 0 es.length S (by have := h.cnt; omega) (Nat.zero_le _) (Nat.le_refl _) h.rd (fun q _ hq => by omega) (fun q hq hq2 => by omega)
 refine ⟨i,S',?_,h1,h2⟩
 rw [book_Book_room_Room_at.f,if_neg (by simp),Option.bind_some,row_ldSl h.row rfl rfl,Option.bind_some,slices_BinarySearchFunc_book_entry_room_Room_book_entry_room_Room_string.f,h.slen]
 rw [show ((0 : Nat) : Int) = 0 from rfl] at e
 rw [e,Option.bind_some]
def putL (most : Int) (es : List En) (i : Nat) (t : List UInt8) (v : Option HA) : List En := if foundAt es t i then es.set i (t,v) else if (es.length : Int) ≥ most then es else es.take i ++ [(t,v)] ++ es.drop i
def putR (most : Int) (es : List En) (i : Nat) (t : List UInt8) : Int := if foundAt es t i then 0 else if (es.length : Int) ≥ most then 7 else 0
theorem found_lt {es : List En} {t : List UInt8} {i : Nat} (h : foundAt es t i = true) : i < es.length := by
 unfold foundAt at h
 cases he : es[i]? with
 | none => rw [he] at h; cases h
 | some e => exact (List.getElem?_eq_some_iff.1 he).1
theorem OV.set_ {S : HS} {s : Sl} {rows : List (List HV)} {z : Nat} (h : OV S z s rows) {i : Nat} {row : List HV} (hi : i < rows.length) (hr : row.length = rows[i].length) :
  ∃ ad S',S.idx s (i : Int) z = some ad ∧ S.sets ad row = some S' ∧ OV S' z s (rows.set i row) ∧ S'.next = S.next ∧ (∀ id,(∀ q,s.a = some q → q.1 ≠ id) → S'.heap id = S.heap id) := by
 rcases h with ⟨_,_,rfl⟩ | ⟨id,rfl,h2,h3⟩
 ·simp at hi
 ·refine ⟨⟨id,i,0⟩,S.put id (.cells z (rows.set i row) true),by simp [HS.idx,h2,hi],?_,.inr ⟨id,by simp,put_here _ _ _,h3⟩,rfl,fun j hj => put_other _ (fun e => hj _ rfl e.symm)⟩
  rw [sets_row h2 (List.getElem?_eq_getElem hi) (by omega)]
  simp [hr]
theorem put_spec {k n p : Nat} {H : Hd} {s : Sl} {most : Int} {es : List En} {S : HS} (hk : 2000 ≤ k) (h : BI p s most es S) (hroom : es.length < 1000) (t : List UInt8) (v : Option HA) (ht : t.length ≤ 1000) :
  ∃ i s' S',PosOf es t i ∧ book_Book_room_Room_Put.f (disp k (n + 1)) H k (some (HA.cell0 p)) t v S = some (putR most es i t,S') ∧ BI p s' most (putL most es i t v) S' ∧ Only p s s' S S' := by
 obtain ⟨i,S1,e1,hp,f1⟩ := at_spec (n := n) (H := H) hk h t
 have h1 := h.fr f1
 refine ⟨i,?_⟩
 rw [book_Book_room_Room_Put.f,if_neg (by simp),e1,Option.bind_some]
 simp only [putL,putR]
 cases hf : foundAt es t i with
 | true =>
  have hi := found_lt hf
  obtain ⟨ad,S2,a1,a2,a3,a4,a5⟩ := OV.set_ h1.ov (i := i) (row := [.str t,.ptr v]) (by simpa using hi) (by simp [enRow])
  have hb : BI p s most (es.set i (t,v)) S2 := by
   refine ⟨by rw [a5 p h1.ne]; exact h1.cell,?_,h1.ne,by rw [a4]; exact h1.hi,set_srt h.srt hf v,fun e he => ?_,by simpa using h.cnt⟩
   ·have : (es.map enRow).set i [.str t,.ptr v] = (es.set i (t,v)).map enRow := by rw [List.map_set]; rfl
    rw [← this]; exact a3
   ·rcases List.mem_or_eq_of_mem_set he with g | rfl
    ·exact h.len e g
    ·exact ht
  refine ⟨s,S2,hp,?_,by simpa using hb,(Only.of_fr f1).trans ⟨by rw [a4]; exact Nat.le_refl _,fun id _ g => a5 id (fun q hq e => g (.inr ⟨q,hq,e⟩)),fun _ ho => .inl ho⟩⟩
  rw [if_pos rfl,Option.bind_some,row_ldSl h1.row rfl rfl,Option.bind_some,a1,Option.bind_some,a2,Option.bind_some,book_Book_room_Room_Put.J0]
  rfl
 | false =>
  rw [if_neg (by simp),Option.bind_some,row_ldSl h1.row rfl rfl,Option.bind_some,Option.bind_some,row_ldI h1.row rfl rfl,Option.bind_some,h1.slen]
  by_cases hfull : (es.length : Int) ≥ most
  ·rw [if_pos hfull]
   refine ⟨s,S1,hp,by simp [hfull],by simpa [hfull] using h1,Only.of_fr f1⟩
  ·rw [if_neg hfull]
   obtain ⟨s',S2,a1,a2,a3,a4,a5⟩ := ins_ov (row := [.str t,.ptr v]) h1.ov (i := i) (by simpa using hp.le) (by simp; omega)
   have hcell : S2.heap p = .cells 2 [[.int .i64 most,s.hv]] true := by rw [a4 p h1.hi h1.ne]; exact h1.cell
   have hne' : ∀ q,s'.a = some q → q.1 ≠ p := fun q hq => by have := a5 q hq; have := h1.hi; omega
   rw [Option.bind_some,row_ldSl h1.row rfl rfl,Option.bind_some,letv,slices_Insert_book_entry_room_Room_book_entry_room_Room_w.f,a1,Option.bind_some,Option.bind_some]
   have hsr : S2.sets (HA.fld (HA.cell0 p) 1) [s'.hv] = some (S2.put p (.cells 2 [[.int .i64 most,s'.hv]] true)) := (sets_row hcell rfl (by simp)).trans rfl
   rw [hsr,Option.bind_some,book_Book_room_Room_Put.J0]
   have hb : BI p s' most (es.take i ++ [(t,v)] ++ es.drop i) (S2.put p (.cells 2 [[.int .i64 most,s'.hv]] true)) := by
    refine ⟨put_here _ _ _,?_,hne',Nat.lt_of_lt_of_le h1.hi a3,ins_srt hp h.srt hf v,fun e he => ?_,?_⟩
    ·have hmap : (es.take i ++ [(t,v)] ++ es.drop i).map enRow = (es.map enRow).take i ++ [[.str t,.ptr v]] ++ (es.map enRow).drop i := by
      simp only [List.map_append,List.map_take,List.map_drop,List.map_cons,List.map_nil,enRow]
     rw [hmap]
     exact a2.keep (fun q hq => put_other _ (hne' q hq)) (Nat.le_refl _)
    ·simp only [List.mem_append,List.mem_singleton] at he
     rcases he with (g | rfl) | g
     ·exact h.len e (List.mem_of_mem_take g)
     ·exact ht
     ·exact h.len e (List.mem_of_mem_drop g)
    ·simp only [List.length_append,List.length_take,List.length_drop,List.length_singleton]; omega
   refine ⟨s',S2.put p (.cells 2 [[.int .i64 most,s'.hv]] true),hp,by simp [hfull],by simpa [hfull] using hb,(Only.of_fr f1).trans ⟨by rw [put_next]; exact a3,fun id g1 g2 => ?_,fun id ho => ?_⟩⟩
   ·rw [put_other _ (fun e => g2 (.inl e))]
    exact a4 id g1 (fun q hq e => g2 (.inr ⟨q,hq,e⟩))
   ·rcases ho with g | ⟨q,g1,g2⟩
    ·exact .inl (.inl g)
    ·right; rw [← g2]; exact a5 q g1
theorem delete_spec {k n p : Nat} {H : Hd} {s : Sl} {most : Int} {es : List En} {S : HS} (hk : 2000 ≤ k) (h : BI p s most es S) (t : List UInt8) :
  ∃ i s' S',PosOf es t i ∧ book_Book_room_Room_Delete.f (disp k (n + 1)) H k (some (HA.cell0 p)) t S = some (foundAt es t i,S') ∧ BI p s' most (if foundAt es t i then es.eraseIdx i else es) S' ∧ Only p s s' S S' := by
 obtain ⟨i,S1,e1,hp,f1⟩ := at_spec (n := n) (H := H) hk h t
 have h1 := h.fr f1
 refine ⟨i,?_⟩
 rw [book_Book_room_Room_Delete.f,e1,Option.bind_some]
 cases hf : foundAt es t i with
 | false =>
  rw [if_neg (by simp),book_Book_room_Room_Delete.J0]
  exact ⟨s,S1,hp,rfl,by simpa using h1,Only.of_fr f1⟩
 | true =>
  have hi := found_lt hf
  have hcnt := h.cnt
  rw [if_pos rfl,Option.bind_some,row_ldSl h1.row rfl rfl,Option.bind_some]
  simp only
  rw [w64_id (by omega) (by omega),show ((i : Int) + 1) = ((i + 1 : Nat) : Int) by simp]
  obtain ⟨s',S2,a1,a2,a3,a4,a5⟩ := del_ov h1.ov (i := i) (by simpa using hi) (by simp; omega)
  have hcell : S2.heap p = .cells 2 [[.int .i64 most,s.hv]] true := by rw [a4 p h1.hi h1.ne]; exact h1.cell
  have hne' : ∀ q,s'.a = some q → q.1 ≠ p := fun q hq => by have := a5 q hq; have := h1.hi; omega
  have hsr : S2.sets (HA.fld (HA.cell0 p) 1) [s'.hv] = some (S2.put p (.cells 2 [[.int .i64 most,s'.hv]] true)) := (sets_row hcell rfl (by simp)).trans rfl
  rw [slices_Delete_book_entry_room_Room_book_entry_room_Room_w.f,a1,Option.bind_some,Option.bind_some,hsr,Option.bind_some,book_Book_room_Room_Delete.J0]
  have hb : BI p s' most (es.eraseIdx i) (S2.put p (.cells 2 [[.int .i64 most,s'.hv]] true)) := by
   refine ⟨put_here _ _ _,?_,hne',Nat.lt_of_lt_of_le h1.hi a3,erase_srt h.srt i,fun e he => h.len e (List.mem_of_mem_eraseIdx he),by rw [List.length_eraseIdx,if_pos hi]; omega⟩
   rw [Go.ChangeMaps.map_eraseIdx]
   exact a2.keep (fun q hq => put_other _ (hne' q hq)) (Nat.le_refl _)
  refine ⟨s',S2.put p (.cells 2 [[.int .i64 most,s'.hv]] true),hp,rfl,by simpa using hb,(Only.of_fr f1).trans ⟨by rw [put_next]; exact a3,fun id g1 g2 => ?_,fun id ho => ?_⟩⟩
  ·rw [put_other _ (fun e => g2 (.inl e))]
   exact a4 id g1 (fun q hq e => g2 (.inr ⟨q,hq,e⟩))
  ·rcases ho with g | ⟨q,g1,g2⟩
   ·exact .inl (.inl g)
   ·right; rw [← g2]; exact a5 q g1
theorem len_spec {p : Nat} {s : Sl} {most : Int} {es : List En} {S : HS} (h : BI p s most es S) : book_Book_room_Room_Len.f (some (HA.cell0 p)) S = some ((es.length : Int),S) := by
 rw [book_Book_room_Room_Len.f,if_neg (by simp),Option.bind_some,row_ldSl h.row rfl rfl,Option.bind_some,h.slen]
theorem clone_spec {s : Sl} {rows : List (List HV)} {S : HS} (hr : Rd S.next S 2 s rows) (hn : s.a = none → rows = []) (hc : rows.length ≤ 1000) : ∃ s' S1,slices_Clone_book_entry_room_Room_book_entry_room_Room.f s S = some (s',S1) ∧ S1.rows s' 2 = some rows ∧ (∀ q,s'.a = some q → S.next ≤ q.1 ∧ q.1 < S1.next) ∧ Fr S.next S S1 := by
 unfold slices_Clone_book_entry_room_Room_book_entry_room_Room.f
 by_cases ha : s.a.isNone = true
 ·rw [if_pos ha]
  refine ⟨_,S,rfl,?_,fun q hq => (by cases hq),Fr.refl _ _⟩
  rw [hn (by simpa using ha)]; rfl
 ·rw [if_neg ha,letv]
  have hl := Vec.lit (n := S.next) (z := 2) (S := S) [] (Nat.le_refl _)
  have hr' : (S.lit [] 2).2.rows s 2 = some rows := (hr.frame (lit_fr [] (Nat.le_refl _)) (Nat.le_refl _)).rows
  obtain ⟨s',S1,e1,v1,f1⟩ := hl.app (new := rows) (Nat.le_succ _) (by simp; omega)
  rw [hr',Option.bind_some,e1,Option.bind_some]
  rw [List.nil_append] at v1
  exact ⟨s',S1,rfl,v1.rows,v1.lo,(lit_fr [] (Nat.le_refl _)).trans f1⟩
theorem told_spec {s : Sl} {rows : List (List HV)} {S : HS} (hr : S.rows s 2 = some rows) (hq : ∀ q,s.a = some q → q.1 < S.next) :
  ∃ S',book_told_room_Room.f s S = some (.fn (.func 119) [] [.ptr (some (HA.cell0 S.next))],S') ∧ S'.heap S.next = .cells 1 [[s.hv]] true ∧ S'.rows s 2 = some rows ∧ S'.next = S.next + 1 ∧ Fr S.next S S' := by
 rw [book_told_room_Room.f,letv]
 refine ⟨_,rfl,new_here _ _,?_,rfl,Fr.new (Nat.le_refl _) _⟩
 have hrd : Rd S.next S 2 s rows := ⟨hr,hq⟩
 exact (hrd.frame (Fr.new (Nat.le_refl _) _) (Nat.le_refl _)).rows
theorem all_spec {p : Nat} {s : Sl} {most : Int} {es : List En} {S : HS} (h : BI p s most es S) :
  ∃ c s' S',book_Book_room_Room_All.f (some (HA.cell0 p)) S = some (.fn (.func 119) [] [.ptr (some (HA.cell0 c))],S') ∧ S.next ≤ c ∧ c < S'.next ∧ S'.heap c = .cells 1 [[s'.hv]] true ∧ S'.rows s' 2 = some (es.map enRow) ∧ (∀ q,s'.a = some q → S.next ≤ q.1 ∧ q.1 < S'.next) ∧ Fr S.next S S' := by
 obtain ⟨s',S1,e1,r1,q1,f1⟩ := clone_spec h.rd h.ov.none (by have := h.cnt; simpa using this)
 obtain ⟨S2,e2,c2,r2,n2,f2⟩ := told_spec r1 (fun q hq => (q1 q hq).2)
 rw [book_Book_room_Room_All.f,if_neg (by simp),Option.bind_some,row_ldSl h.row rfl rfl,Option.bind_some,e1,Option.bind_some,e2,Option.bind_some]
 exact ⟨S1.next,s',S2,rfl,f1.le,by omega,c2,r2,fun q hq => ⟨(q1 q hq).1,by have := (q1 q hq).2; omega⟩,f1.trans (f2.mono f1.le)⟩
theorem get_spec {k n p : Nat} {H : Hd} {s : Sl} {most : Int} {es : List En} {S : HS} (hk : 2000 ≤ k) (h : BI p s most es S) (t : List UInt8) :
  ∃ i S',PosOf es t i ∧ book_Book_room_Room_Get.f (disp k (n + 1)) H k (some (HA.cell0 p)) t S = some ((if foundAt es t i then (es[i]?.getD ([],none)).2 else none,foundAt es t i),S') ∧ Fr S.next S S' := by
 obtain ⟨i,S1,e1,hp,f1⟩ := at_spec (n := n) (H := H) hk h t
 have h1 := h.fr f1
 refine ⟨i,S1,hp,?_,f1⟩
 rw [book_Book_room_Room_Get.f,e1,Option.bind_some]
 cases hf : foundAt es t i with
 | false => rw [if_pos (by simp)]; rfl
 | true =>
  have hi := found_lt hf
  obtain ⟨ad,a1,a2,a3⟩ := en_rows h1.ov.rows hi
  rw [if_neg (by simp),Option.bind_some,row_ldSl h1.row rfl rfl,Option.bind_some]
  simp only
  rw [a1,Option.bind_some,a3,Option.bind_some]
  simp [hi]
end BK
end Go.Proofs.YtbmfomkfmpppiaaGreat.X
namespace Go.Proofs.YtbmfomkfmpppiaaGreat.X
open Go.Proofs.YtbmfomkfmpppiaaGreat.HL
set_option linter.unusedVariables false
namespace MK
def cmpI (a b : Int) : Int := if a < b then -1 else if b < a then 1 else 0
theorem cmpI_zero (a b : Int) : cmpI a b = 0 ↔ a = b := by unfold cmpI; split <;> (try split) <;> omega
theorem cmpI_lt (a b : Int) : cmpI a b < 0 ↔ a < b := by unfold cmpI; split <;> (try split) <;> omega
theorem cmpI_anti (a b : Int) : cmpI b a = - cmpI a b := by
 unfold cmpI
 split <;> split <;> omega
theorem cmpI_lt_trans {a b c : Int} (h1 : cmpI a b < 0) (h2 : cmpI b c < 0) : cmpI a c < 0 := by rw [cmpI_lt] at *; omega
theorem cmpI_eq_left {a b c : Int} (h : cmpI a b = 0) : cmpI a c = cmpI b c := by rw [cmpI_zero] at h; rw [h]
theorem cmp_spec (a b : Int) : cmp_Compare_int.f a b = some (cmpI a b) := by
 unfold cmp_Compare_int.f cmpI cmp_isNaN_int.f
 simp
 split
 ·rfl
 ·split <;> rfl
abbrev En := Int × Bool × Bool
def enRow (e : En) : List HV := [.int .i64 e.1,.bool e.2.1,.bool e.2.2]
def Srt (es : List En) : Prop := es.Pairwise fun a b => cmpI a.1 b.1 < 0
theorem Srt.lt {es : List En} (h : Srt es) {i j : Nat} (hi : i < es.length) (hj : j < es.length) (hij : i < j) : cmpI es[i].1 es[j].1 < 0 := List.pairwise_iff_getElem.1 h i j hi hj hij
structure PosOf (es : List En) (t : Int) (p : Nat) : Prop where
 le : p ≤ es.length
 lo : ∀ q (hq : q < es.length),q < p → cmpI es[q].1 t < 0
 hi : ∀ q (hq : q < es.length),p ≤ q → ¬ cmpI es[q].1 t < 0
def foundAt (es : List En) (t : Int) (p : Nat) : Bool := match es[p]? with | some e => decide (cmpI e.1 t = 0) | none => false
theorem PosOf.gt {es : List En} {t : Int} {p : Nat} (h : PosOf es t p) (hs : Srt es) (hf : foundAt es t p = false) {q : Nat} (hq : q < es.length) (hpq : p ≤ q) : cmpI t es[q].1 < 0 := by
 have hp : p < es.length := by omega
 have h1 := h.hi p hp (Nat.le_refl _)
 have h2 : cmpI es[p].1 t ≠ 0 := by
  simp only [foundAt,List.getElem?_eq_getElem hp,decide_eq_false_iff_not] at hf
  exact hf
 have h3 : cmpI t es[p].1 < 0 := by rw [cmpI_anti]; omega
 rcases Nat.eq_or_lt_of_le hpq with e | e
 ·subst e; exact h3
 ·exact cmpI_lt_trans h3 (hs.lt hp hq e)
theorem ins_srt {es : List En} {t : Int} {p : Nat} (h : PosOf es t p) (hs : Srt es) (hf : foundAt es t p = false) (v : Bool × Bool) : Srt (es.take p ++ [(t,v)] ++ es.drop p) := by
 unfold Srt
 rw [List.append_assoc,List.pairwise_append]
 refine ⟨List.Pairwise.sublist (List.take_sublist _ _) hs,?_,fun a ha b hb => ?_⟩
 ·rw [List.singleton_append,List.pairwise_cons]
  refine ⟨fun b hb => ?_,List.Pairwise.sublist (List.drop_sublist _ _) hs⟩
  obtain ⟨q,hq,rfl⟩ := List.getElem_of_mem hb
  rw [List.getElem_drop]
  exact h.gt hs hf _ (by omega)
 ·obtain ⟨q,hq,rfl⟩ := List.getElem_of_mem ha
  rw [List.length_take] at hq
  rw [List.getElem_take]
  have h1 := h.lo q (by omega) (by omega)
  rcases List.mem_append.1 hb with hb | hb
  ·simp only [List.mem_singleton] at hb
   subst hb; exact h1
  ·obtain ⟨q2,hq2,rfl⟩ := List.getElem_of_mem hb
   rw [List.getElem_drop]
   rw [List.length_drop] at hq2
   exact hs.lt (by omega) (by omega) (by omega)
theorem erase_srt {es : List En} (hs : Srt es) (p : Nat) : Srt (es.eraseIdx p) := List.Pairwise.sublist (List.eraseIdx_sublist _ _) hs
theorem erase_away {es : List En} {t : Int} {p : Nat} (hs : Srt es) (hf : foundAt es t p = true) : ∀ e ∈ es.eraseIdx p,e ∈ es ∧ cmpI t e.1 ≠ 0 := by
 have hp : p < es.length := by
  unfold foundAt at hf
  cases he : es[p]? with
  | none => rw [he] at hf; cases hf
  | some e => exact (List.getElem?_eq_some_iff.1 he).1
 have h0 : cmpI es[p].1 t = 0 := by
  simp only [foundAt,List.getElem?_eq_getElem hp,decide_eq_true_eq] at hf
  exact hf
 intro e he
 rw [List.mem_eraseIdx_iff_getElem] at he
 obtain ⟨q,hq,hne,rfl⟩ := he
 refine ⟨List.getElem_mem hq,fun hc => ?_⟩
 have h1 : cmpI es[p].1 es[q].1 = 0 := by rw [cmpI_eq_left h0]; exact hc
 rcases Nat.lt_or_ge p q with h | h
 ·have := hs.lt hp hq h; omega
 ·have h2 := hs.lt hq hp (by omega)
  rw [cmpI_anti] at h1; omega
theorem none_alike {es : List En} {t : Int} {p : Nat} (h : PosOf es t p) (hs : Srt es) (hf : foundAt es t p = false) : ∀ e ∈ es,cmpI t e.1 ≠ 0 := by
 intro e he hc
 obtain ⟨q,hq,rfl⟩ := List.getElem_of_mem he
 rcases Nat.lt_or_ge q p with h1 | h1
 ·have := h.lo q hq h1; rw [cmpI_anti] at hc; omega
 ·have := h.gt hs hf hq h1; omega
def CmpF (D : Dp) (H : Hd) (fv : HV) (t : Int) : Prop := ∀ (e : En) (S : HS),∃ S',D H fv [.agg (enRow e),.int .i64 t] S = some (.int .i64 (cmpI e.1 t),S') ∧ Fr S.next S S'
theorem cmpF {k n : Nat} {H : Hd} {t : Int} (hk : 2000 ≤ k) : CmpF (disp k (n + 1)) H (HV.fn (.func 97) [] []) t := by
 intro e S
 have hcell : (S.new (.cells 3 [[.int .i64 e.1,.bool e.2.1,.bool e.2.2]] true)).heap S.next = .cells 3 [[.int .i64 e.1,.bool e.2.1,.bool e.2.2]] true := new_here _ _
 refine ⟨S.new (.cells 3 [[.int .i64 e.1,.bool e.2.1,.bool e.2.2]] true),?_,Fr.new (Nat.le_refl _) _⟩
 have e' : call_97 (disp k n) H k ([] ++ [HV.agg (enRow e),.int .i64 t] ++ []) S = some (.int .i64 (cmpI e.1 t),S.new (.cells 3 [[.int .i64 e.1,.bool e.2.1,.bool e.2.2]] true)) := by
  rw [call_97]
  simp only [List.nil_append,List.append_nil,args2,enRow,dA3,dB,dI,Option.bind_some,if_true]
  rw [room_Room_at_1.f,letv,row_ldI (cell_row hcell) rfl rfl,Option.bind_some,cmp_spec,Option.bind_some]
  rfl
 rw [disp_func]
 repeat rw [if_neg (by decide)]
 rw [if_pos rfl]
 exact e'
theorem en_rows {S : HS} {s : Sl} {xs : List En} (h : S.rows s 3 = some (xs.map enRow)) {i : Nat} (hi : i < xs.length) : ∃ ad,S.idx s (i : Int) 3 = some ad ∧ S.ldI .i64 (HA.fld ad 0) = some xs[i].1 ∧ S.ldB (HA.fld ad 1) = some xs[i].2.1 ∧ S.ldB (HA.fld ad 2) = some xs[i].2.2 := by
 obtain ⟨ad,h1,h2,h3⟩ := rows_idx h (i := i) (by simpa using hi)
 rw [List.getElem_map] at h3
 exact ⟨ad,h1,row_ldI h3 h2 rfl,row_ldB h3 h2 rfl,row_ldB h3 h2 rfl⟩
theorem search_loop {D : Dp} {H : Hd} {k : Nat} {s : Sl} {t : Int} {fv : HV} {es : List En} (hc : CmpF D H fv t) (hs : Srt es) (hle : es.length ≤ 100000) :
  ∀ (n i j : Nat) (S : HS),j - i < n → i ≤ j → j ≤ es.length → Rd S.next S 3 s (es.map enRow) → (∀ q (hq : q < es.length),q < i → cmpI es[q].1 t < 0) → (∀ q (hq : q < es.length),j ≤ q → ¬ cmpI es[q].1 t < 0) →
  ∃ (p : Nat) (S' : HS),slices_BinarySearchFunc_api_Member_api_Member_int.L0 D H k n s t fv (es.length : Int) (i : Int) (j : Int) S = some (((p : Int),foundAt es t p),S') ∧ PosOf es t p ∧ Fr S.next S S' := by
 intro n
 induction n with
 | zero => intro i j S h; omega
 | succ n ih =>
  intro i j S hf hij hj hrd hlo hhi
  unfold slices_BinarySearchFunc_api_Member_api_Member_int.L0
  by_cases hlt : i < j
  ·rw [if_pos (by omega),mid_eq (by omega)]
   have hm : (i + j) / 2 < es.length := by omega
   obtain ⟨ad,a1,a2,a3,a4⟩ := en_rows hrd.rows hm
   obtain ⟨S1,e1,f1⟩ := hc es[(i + j) / 2] S
   have hrd1 : Rd S1.next S1 3 s (es.map enRow) := (hrd.frame f1 (Nat.le_refl _)).mono f1.le
   have e1' : D H fv [HV.agg [HV.int .i64 es[(i + j) / 2].1,HV.bool es[(i + j) / 2].2.1,HV.bool es[(i + j) / 2].2.2],HV.int .i64 t] S = some (.int .i64 (cmpI es[(i + j) / 2].1 t),S1) := e1
   rw [a1,Option.bind_some,a2,Option.bind_some,a3,Option.bind_some,a4,Option.bind_some,e1',Option.bind_some]
   simp only [dI,if_true,Option.bind_some]
   by_cases hc0 : cmpI es[(i + j) / 2].1 t < 0
   ·rw [if_pos hc0,w64_id (by omega) (by omega),show ((((i + j) / 2 : Nat) : Int) + 1) = (((i + j) / 2 + 1 : Nat) : Int) by simp]
    obtain ⟨p,S2,e2,p2,f2⟩ := ih ((i + j) / 2 + 1) j S1 (by omega) (by omega) hj hrd1 (fun q hq hqi => by
     rcases Nat.lt_or_ge q ((i + j) / 2) with h | h
     ·exact cmpI_lt_trans (hs.lt hq hm h) hc0
     ·obtain rfl : q = (i + j) / 2 := by omega
      exact hc0) hhi
    exact ⟨p,S2,e2,p2,f1.trans (f2.mono f1.le)⟩
   ·rw [if_neg hc0]
    obtain ⟨p,S2,e2,p2,f2⟩ := ih i ((i + j) / 2) S1 (by omega) (by omega) (by omega) hrd1 hlo (fun q hq hqi => by
     rcases Nat.lt_or_ge ((i + j) / 2) q with h | h
     ·intro hcc
      exact hc0 (cmpI_lt_trans (hs.lt hm hq h) hcc)
     ·obtain rfl : q = (i + j) / 2 := by omega
      exact hc0)
    exact ⟨p,S2,e2,p2,f1.trans (f2.mono f1.le)⟩
  ·obtain rfl : i = j := by omega
   rw [if_neg (by omega)]
   have hp : PosOf es t i := ⟨hj,hlo,hhi⟩
   by_cases hend : i < es.length
   ·obtain ⟨ad,a1,a2,a3,a4⟩ := en_rows hrd.rows hend
    obtain ⟨S1,e1,f1⟩ := hc es[i] S
    have e1' : D H fv [HV.agg [HV.int .i64 es[i].1,HV.bool es[i].2.1,HV.bool es[i].2.2],HV.int .i64 t] S = some (.int .i64 (cmpI es[i].1 t),S1) := e1
    rw [if_pos (by omega),a1,Option.bind_some,a2,Option.bind_some,a3,Option.bind_some,a4,Option.bind_some,e1',Option.bind_some]
    simp only [dI,if_true,Option.bind_some,slices_BinarySearchFunc_api_Member_api_Member_int.J1]
    refine ⟨i,S1,?_,hp,f1⟩
    simp [foundAt,List.getElem?_eq_getElem hend]
   ·rw [if_neg (by omega),slices_BinarySearchFunc_api_Member_api_Member_int.J1]
    refine ⟨i,S,?_,hp,Fr.refl _ _⟩
    simp [foundAt,List.getElem?_eq_none (show es.length ≤ i by omega)]
theorem found_lt {es : List En} {t : Int} {i : Nat} (h : foundAt es t i = true) : i < es.length := by
 unfold foundAt at h
 cases he : es[i]? with
 | none => rw [he] at h; cases h
 | some e => exact (List.getElem?_eq_some_iff.1 he).1
end MK
end Go.Proofs.YtbmfomkfmpppiaaGreat.X
namespace Go.Proofs.YtbmfomkfmpppiaaGreat.X
open Go.Proofs.YtbmfomkfmpppiaaGreat.HL
set_option linter.unusedVariables false
theorem MK.found_iff {es : List MK.En} {t : Int} {i : Nat} (h : MK.PosOf es t i) (hs : MK.Srt es) : MK.foundAt es t i = true ↔ t ∈ es.map (·.1) := by
 constructor
 ·intro hf
  have hi := MK.found_lt hf
  simp only [MK.foundAt,List.getElem?_eq_getElem hi,decide_eq_true_eq] at hf
  rw [MK.cmpI_zero] at hf
  exact List.mem_map.2 ⟨_,List.getElem_mem hi,hf⟩
 ·intro hm
  obtain ⟨e,he,rfl⟩ := List.mem_map.1 hm
  cases hf : MK.foundAt es e.1 i with
  | true => rfl
  | false => exact absurd ((MK.cmpI_zero _ _).2 rfl) (MK.none_alike h hs hf e he)
theorem MK.found_at {es : List MK.En} {t : Int} {i : Nat} (hf : MK.foundAt es t i = true) : ∃ hi : i < es.length,(es[i]'hi).1 = t := by
 have hi := MK.found_lt hf
 simp only [MK.foundAt,List.getElem?_eq_getElem hi,decide_eq_true_eq] at hf
 exact ⟨hi,(MK.cmpI_zero _ _).1 hf⟩
structure Rm where
 p : Nat
 s : Sl
 name : List UInt8
 mb : Int
 ms : List MK.En
 q : Nat
 qs : Sl
def Rm.ids (e : Rm) : List Int := e.ms.map (·.1)
def Rm.row (e : Rm) : List HV := [.str e.name,.int .i64 e.mb,e.s.hv,.str [],.int .i64 20,.str [],.int .i64 0,Sl.nil.hv,.ptr (some (HA.cell0 e.q))]
def OwnR (e : Rm) (id : Nat) : Prop := Own e.p e.s id ∨ Own e.q e.qs id
structure RI (e : Rm) (S : HS) : Prop where
 cell : S.heap e.p = .cells 9 [e.row] true
 ov : OV S 3 e.s (e.ms.map MK.enRow)
 ne : ∀ q,e.s.a = some q → q.1 ≠ e.p
 hi : e.p < S.next
 srt : MK.Srt e.ms
 cnt : e.ms.length ≤ 900
 inv : KI.SI e.q e.qs [] S
 dis : ∀ id,Own e.p e.s id → ¬ Own e.q e.qs id
section
variable {k n : Nat} {H : Hd} {e : Rm} {S S' : HS}
theorem RI.lt (h : RI e S) {id : Nat} (ho : OwnR e id) : id < S.next := by
 rcases ho with (rfl | ⟨q,h1,rfl⟩) | ho
 ·exact h.hi
 ·exact h.ov.lt h1
 ·exact h.inv.lt ho
theorem RI.keep (h : RI e S) (hk : ∀ id,OwnR e id → S'.heap id = S.heap id) (hn : S.next ≤ S'.next) : RI e S' :=
 ⟨(hk _ (.inl (.inl rfl))).trans h.cell,h.ov.keep (fun q hq => hk q.1 (.inl (.inr ⟨q,hq,rfl⟩))) hn,h.ne,Nat.lt_of_lt_of_le h.hi hn,h.srt,h.cnt,h.inv.keep (fun id g => hk id (.inr g)) hn,h.dis⟩
theorem RI.fr (h : RI e S) (hf : Fr S.next S S') : RI e S' := h.keep (fun id ho => hf.eq id (h.lt ho)) hf.le
theorem RI.slen (h : RI e S) : (e.s.len : Int) = e.ms.length := by have := h.ov.len; simp at this; omega
theorem RI.ldS (h : RI e S) : S.ldSl (HA.fld (HA.cell0 e.p) 2) = some e.s := row_ldSl (cell_row h.cell) rfl rfl
theorem room_new (hk : 2000 ≤ k) (name : List UInt8) (mb : Int) : ∃ e S',room_New.f k name mb S = some (some (HA.cell0 e.p),S') ∧ RI e S' ∧ e.name = name ∧ e.ms = [] ∧ (∀ id,OwnR e id → S.next ≤ id) ∧ Fr S.next S S' := by
 obtain ⟨s',xs',S1,e1,h1,f1,g1,g2,g3⟩ := KI.of_spec (k := k) (sl := Sl.nil) (ls := []) (S := S) hk (by exact ⟨rfl,fun q hq => by cases hq⟩) (by simp)
 have hx : xs' = [] := List.length_eq_zero_iff.1 (by simpa using g3)
 subst hx
 have l1 := f1.le
 have hlt := h1.hi
 refine ⟨⟨S1.next,Sl.nil,name,mb,[],S.next,s'⟩,_,by rw [room_New.f,e1,Option.bind_some,letv]; rfl,⟨new_here _ _,.inl ⟨rfl,rfl,rfl⟩,fun q hq => (by cases hq),Nat.lt_succ_self _,List.Pairwise.nil,by simp,h1.fr (Fr.new (Nat.le_refl _) _),?_⟩,rfl,rfl,?_,f1.trans (Fr.new l1 _)⟩
 ·rintro id (rfl | ⟨q,hq,_⟩) ho
  ·exact absurd (h1.lt ho) (Nat.lt_irrefl _)
  ·cases hq
 ·rintro id ((rfl | ⟨q,hq,_⟩) | ho)
  ·exact l1
  ·cases hq
  ·exact g1 id ho
theorem room_at (hk : 2000 ≤ k) (h : RI e S) (id : Int) : ∃ (i : Nat) (S' : HS),room_Room_at.f (disp k (n + 1)) H k (some (HA.cell0 e.p)) id S = some (((i : Int),MK.foundAt e.ms id i),S') ∧ MK.PosOf e.ms id i ∧ Fr S.next S S' := by
 have hcnt := h.cnt
 obtain ⟨i,S',e1,h1,h2⟩ := MK.search_loop (k := k) (fv := HV.fn (.func 97) [] []) (MK.cmpF (n := n) (H := H) (t := id) (show 2000 ≤ k by omega)) h.srt (by omega) k 0 e.ms.length S (by omega) (Nat.zero_le _) (Nat.le_refl _) h.ov.rd (fun q _ hq => by omega) (fun q hq hq2 => by omega)
 refine ⟨i,S',?_,h1,h2⟩
 rw [room_Room_at.f,if_neg (by simp),Option.bind_some,h.ldS,Option.bind_some,slices_BinarySearchFunc_api_Member_api_Member_int.f,h.slen]
 rw [show ((0 : Nat) : Int) = 0 from rfl] at e1
 rw [e1,Option.bind_some]
theorem room_name (h : RI e S) : room_Room_Name.f (some (HA.cell0 e.p)) S = some (e.name,S) := by
 rw [room_Room_Name.f,if_neg (by simp),Option.bind_some,row_ldS (cell_row h.cell) rfl rfl,Option.bind_some]
theorem room_len (h : RI e S) : room_Room_Len.f (some (HA.cell0 e.p)) S = some ((e.ms.length : Int),S) := by
 rw [room_Room_Len.f,if_neg (by simp),Option.bind_some,h.ldS,Option.bind_some,h.slen]
theorem room_set {s' : Sl} (h : S.heap e.p = .cells 9 [e.row] true) : S.sets (HA.fld (HA.cell0 e.p) 2) [s'.hv] = some (S.put e.p (.cells 9 [({ e with s := s' } : Rm).row] true)) := (sets_row h rfl (by simp [Rm.row])).trans rfl
theorem room_add (hk : 2000 ≤ k) (h : RI e S) (id : Int) (op : Bool) (hnew : id ∉ e.ids) (hc : e.ms.length < 900) :
  ∃ e' S',room_Room_Add.f (disp k (n + 1)) H k (some (HA.cell0 e.p)) id op S = some ((),S') ∧ RI e' S' ∧ e'.p = e.p ∧ e'.name = e.name ∧ (∃ i,e'.ms = e.ms.take i ++ [(id,op,false)] ++ e.ms.drop i) ∧ Chg (OwnR e) (OwnR e') S S' := by
 obtain ⟨i,S1,e1,hp,f1⟩ := room_at (n := n) (H := H) hk h id
 have h1 := h.fr f1
 have hf : MK.foundAt e.ms id i = false := by
  cases hf : MK.foundAt e.ms id i with
  | false => rfl
  | true => exact absurd ((MK.found_iff hp h.srt).1 hf) hnew
 obtain ⟨s',S2,a1,a2,a3,a4,a5⟩ := ins_ov (row := [.int .i64 id,.bool op,.bool false]) h1.ov (i := i) (by simpa using hp.le) (by simp; omega)
 have hcell : S2.heap e.p = .cells 9 [e.row] true := by rw [a4 e.p h1.hi h1.ne]; exact h1.cell
 have hset := room_set (s' := s') hcell
 generalize hS3 : S2.put e.p (.cells 9 [({ e with s := s' } : Rm).row] true) = S3 at hset
 have n3 : S3.next = S2.next := by rw [← hS3]; rfl
 have hne' : ∀ q,s'.a = some q → q.1 ≠ e.p := fun q hq => by have := a5 q hq; have := h1.hi; omega
 have hcell3 : S3.heap e.p = .cells 9 [({ e with s := s' } : Rm).row] true := by rw [← hS3]; exact put_here _ _ _
 have eq3 : ∀ x,x < S1.next → ¬ Own e.p e.s x → S3.heap x = S1.heap x := fun x hx hn => by
  rw [← hS3,put_other _ (fun g => hn (.inl g))]
  exact a4 x hx (fun q hq g => hn (.inr ⟨q,hq,g⟩))
 have inv3 : KI.SI e.q e.qs [] S3 := h1.inv.keep (fun x g => eq3 x (h1.inv.lt g) (fun g' => h.dis x g' g)) (by omega)
 have hld8 : S3.ldP (HA.fld (HA.cell0 e.p) 8) = some (some (HA.cell0 e.q)) := row_ldP (cell_row hcell3) rfl rfl
 have fl : Fr S3.next S3 (S3.lit [[.int .i64 id]] 1).2 := lit_fr _ (Nat.le_refl _)
 have hlr : (S3.lit [[.int .i64 id]] 1).2.rows (S3.lit [[.int .i64 id]] 1).1 1 = some (([id] : List KI.Ky).map KI.row1) := (Vec.lit (n := 0) (z := 1) (S := S3) _ (Nat.zero_le _)).rows
 obtain ⟨qs',xs',S5,r1,r2,r3,r4,r5⟩ := KI.remove_spec (ls := [id]) hk (inv3.fr fl) hlr (fun q hq => by
  have : q = (S3.next,0) := by simp [HS.lit] at hq; exact hq.symm
  subst this
  exact ⟨Nat.lt_succ_self _,fun ho => by have := inv3.lt ho; simp at this⟩) (by simp)
 have hx : xs' = [] := List.length_eq_zero_iff.1 (by simpa using r5)
 subst hx
 have l5 := r3.le
 have l4 := fl.le
 refine ⟨{ e with s := s',ms := e.ms.take i ++ [(id,op,false)] ++ e.ms.drop i,qs := qs' },S5,?_,?_,rfl,rfl,⟨i,rfl⟩,?_⟩
 ·rw [room_Room_Add.f,e1,Option.bind_some,if_neg (by simp),hf,room_Room_Add.J0,if_neg (by simp),Option.bind_some,h1.ldS,Option.bind_some,letv,slices_Insert_api_Member_api_Member_w.f,a1,Option.bind_some,Option.bind_some,hset,Option.bind_some,Option.bind_some,hld8,Option.bind_some,letv,r1,Option.bind_some]
 ·have hown : ∀ x,Own e.p s' x → x < S3.next ∧ ¬ Own e.q e.qs x := by
   rintro x (rfl | ⟨q,hq,rfl⟩)
   ·exact ⟨by have := h1.hi; omega,h.dis _ (.inl rfl)⟩
   ·exact ⟨by have := a2.lt hq; omega,fun g => by have := h1.inv.lt g; have := a5 q hq; omega⟩
  have eq5 : ∀ x,Own e.p s' x → S5.heap x = S3.heap x := fun x hx => by
   obtain ⟨g1,g2⟩ := hown x hx
   rw [r3.eq x (by omega) g2,fl.eq x g1]
  refine ⟨(eq5 _ (.inl rfl)).trans hcell3,?_,hne',by have := h1.hi; show e.p < S5.next; omega,MK.ins_srt hp h.srt hf _,?_,r2,?_⟩
  ·have hmap : (e.ms.take i ++ [(id,op,false)] ++ e.ms.drop i).map MK.enRow = (e.ms.map MK.enRow).take i ++ [[.int .i64 id,.bool op,.bool false]] ++ (e.ms.map MK.enRow).drop i := by
    simp only [List.map_append,List.map_take,List.map_drop,List.map_cons,List.map_nil,MK.enRow]
   show OV S5 3 s' ((e.ms.take i ++ [(id,op,false)] ++ e.ms.drop i).map MK.enRow)
   rw [hmap]
   refine a2.keep (fun q hq => ?_) (by omega)
   rw [eq5 q.1 (.inr ⟨q,hq,rfl⟩),← hS3]
   exact put_other _ (hne' q hq)
  ·simp only [List.length_append,List.length_take,List.length_drop,List.length_singleton]; omega
  ·intro x hx ho
   obtain ⟨g1,g2⟩ := hown x hx
   rcases r3.own x ho with g | g
   ·exact g2 g
   ·omega
 ·refine ⟨by have := f1.le; omega,fun x hx ho => ?_,fun x ho => ?_⟩
  ·have l1 := f1.le
   rw [r3.eq x (by omega) (fun g => ho (.inr g)),fl.eq x (by omega),eq3 x (by omega) (fun g => ho (.inl g)),f1.eq x hx]
  ·have l1 := f1.le
   rcases ho with (rfl | ⟨q,hq,rfl⟩) | ho
   ·exact .inl (.inl (.inl rfl))
   ·exact .inr (by have := a5 q hq; omega)
   ·rcases r3.own x ho with g | g
    ·exact .inl (.inr g)
    ·exact .inr (by omega)
theorem room_drop (hk : 2000 ≤ k) (h : RI e S) (id : Int) (hin : id ∈ e.ids) :
  ∃ e' S',room_Room_Drop.f (disp k (n + 1)) H k (some (HA.cell0 e.p)) id S = some (true,S') ∧ RI e' S' ∧ e'.p = e.p ∧ e'.name = e.name ∧ (∃ i,MK.PosOf e.ms id i ∧ MK.foundAt e.ms id i = true ∧ e'.ms = e.ms.eraseIdx i) ∧ Chg (OwnR e) (OwnR e') S S' := by
 obtain ⟨i,S1,e1,hp,f1⟩ := room_at (n := n) (H := H) hk h id
 have h1 := h.fr f1
 have hf : MK.foundAt e.ms id i = true := (MK.found_iff hp h.srt).2 hin
 have hi := MK.found_lt hf
 have hcnt := h.cnt
 obtain ⟨s',S2,a1,a2,a3,a4,a5⟩ := del_ov h1.ov (i := i) (by simpa using hi) (by simp; omega)
 have hcell : S2.heap e.p = .cells 9 [e.row] true := by rw [a4 e.p h1.hi h1.ne]; exact h1.cell
 have hset := room_set (s' := s') hcell
 generalize hS3 : S2.put e.p (.cells 9 [({ e with s := s' } : Rm).row] true) = S3 at hset
 have n3 : S3.next = S2.next := by rw [← hS3]; rfl
 have hne' : ∀ q,s'.a = some q → q.1 ≠ e.p := fun q hq => by have := a5 q hq; have := h1.hi; omega
 have eq3 : ∀ x,x < S1.next → ¬ Own e.p e.s x → S3.heap x = S1.heap x := fun x hx hn => by
  rw [← hS3,put_other _ (fun g => hn (.inl g))]
  exact a4 x hx (fun q hq g => hn (.inr ⟨q,hq,g⟩))
 have hi1 : w64 ((i : Int) + 1) = ((i + 1 : Nat) : Int) := by rw [w64_id (by omega) (by omega)]; simp
 refine ⟨{ e with s := s',ms := e.ms.eraseIdx i },S3,?_,⟨by rw [← hS3]; exact put_here _ _ _,?_,hne',by have := h1.hi; show e.p < S3.next; omega,MK.erase_srt h.srt i,by show (e.ms.eraseIdx i).length ≤ 900; rw [List.length_eraseIdx,if_pos hi]; omega,h1.inv.keep (fun x g => eq3 x (h1.inv.lt g) (fun g' => h.dis x g' g)) (by omega),?_⟩,rfl,rfl,⟨i,hp,hf,rfl⟩,?_⟩
 ·rw [room_Room_Drop.f,e1,Option.bind_some,if_pos hf,Option.bind_some,h1.ldS,Option.bind_some]
  simp only
  rw [hi1,slices_Delete_api_Member_api_Member_w.f,a1,Option.bind_some,Option.bind_some,hset,Option.bind_some,room_Room_Drop.J0,hf]
 ·show OV S3 3 s' ((e.ms.eraseIdx i).map MK.enRow)
  rw [Go.ChangeMaps.map_eraseIdx]
  exact a2.keep (fun q hq => by rw [← hS3]; exact put_other _ (hne' q hq)) (by omega)
 ·rintro x (rfl | ⟨q,hq,rfl⟩) ho
  ·exact h.dis _ (.inl rfl) ho
  ·have := h1.inv.lt ho; have := a5 q hq; omega
 ·have l1 := f1.le
  refine ⟨by omega,fun x hx ho => by rw [eq3 x (by omega) (fun g => ho (.inl g)),f1.eq x hx],?_⟩
  rintro x ((rfl | ⟨q,hq,rfl⟩) | ho)
  ·exact .inl (.inl (.inl rfl))
  ·exact .inr (by have := a5 q hq; omega)
  ·exact .inl (.inr ho)
end
end Go.Proofs.YtbmfomkfmpppiaaGreat.X
namespace Go.Proofs.YtbmfomkfmpppiaaGreat.X
open Go.Proofs.YtbmfomkfmpppiaaGreat.HL
set_option linter.unusedVariables false
def ent (e : Rm) : BK.En := (e.name,some (HA.cell0 e.p))
def Rm.key (e : Rm) : List UInt8 := e.name.map low
structure W where
 w : Nat
 bk : Nat
 r : Nat
 m1 : Nat
 m2 : Nat
 mR : Int
 mJ : Int
 mB : Int
def W.row (x : W) : List HV := [.str [],.str [],.str [],.str [],.int .i64 0,.int .i64 0,.int .i64 x.mJ,.int .i64 x.mR,.int .i64 x.mB,.int .i64 0,.int .i64 0,.int .i64 0,.int .i64 0,.int .i64 0,.int .i64 0,.ptr (some (HA.cell0 x.bk)),.ptr (some (HA.cell0 x.r))]
structure T where
 bs : Sl
 n : Nat
 E1 : List MA.En
 E2 : List MB.En
 R : List Rm
 L : List Pr
def OB (x : W) (t : T) (id : Nat) : Prop := id = x.w ∨ Own x.bk t.bs id ∨ OR x.r x.m1 x.m2 t.E1 t.E2 id
def OA (x : W) (t : T) (id : Nat) : Prop := OB x t id ∨ ∃ e ∈ t.R,OwnR e id
structure RsC (x : W) (t : T) (S : HS) : Prop where
 cell : S.heap x.w = .cells 17 [x.row] true
 hi : x.w < S.next
 book : BK.BI x.bk t.bs x.mR (t.R.map ent) S
 rel : RelI x.r x.m1 x.m2 t.n x.mJ t.E1 t.E2 t.L S
 rooms : ∀ e ∈ t.R,RI e S
 dwb : ¬ Own x.bk t.bs x.w
 dwr : ¬ OR x.r x.m1 x.m2 t.E1 t.E2 x.w
 dbr : ∀ id,Own x.bk t.bs id → ¬ OR x.r x.m1 x.m2 t.E1 t.E2 id
 pw : t.R.Pairwise fun a b => ∀ id,OwnR a id → ¬ OwnR b id
 dR : ∀ e ∈ t.R,∀ id,OwnR e id → ¬ OB x t id
structure RsI (x : W) (t : T) (S : HS) : Prop extends RsC x t S where
 link : ∀ a b,(a,b) ∈ t.L ↔ ∃ e ∈ t.R,e.key = b ∧ a ∈ e.ids
 ne : ∀ e ∈ t.R,e.ms ≠ []
 cm : ∀ e ∈ t.R,e.ms.length ≤ t.n
 cR : t.R.length ≤ t.n
 mR0 : 0 ≤ x.mR
 mR1 : x.mR ≤ 1000
 mJ0 : 0 ≤ x.mJ
 mJ1 : x.mJ ≤ 1000
 cntR : (t.R.length : Int) ≤ x.mR
 cntJ : ∀ a xs,KS.Srt xs → (∀ v,v ∈ xs ↔ (a,v) ∈ t.L) → (xs.length : Int) ≤ x.mJ
section
variable {x : W} {t : T} {S S' : HS} {n : Nat} {H : Hd}
theorem RsC.ltO (h : RsC x t S) {id : Nat} (ho : OA x t id) : id < S.next := by
 rcases ho with (rfl | g | g) | ⟨e,he,g⟩
 ·exact h.hi
 ·exact h.book.lt g
 ·exact h.rel.ltO g
 ·exact (h.rooms e he).lt g
theorem RsC.keep (h : RsC x t S) (hk : ∀ id,OA x t id → S'.heap id = S.heap id) (hn : S.next ≤ S'.next) : RsC x t S' :=
 { h with
  cell := (hk _ (.inl (.inl rfl))).trans h.cell
  hi := Nat.lt_of_lt_of_le h.hi hn
  book := h.book.keep (fun id g => hk id (.inl (.inr (.inl g)))) hn
  rel := h.rel.keep (fun id g => hk id (.inl (.inr (.inr g)))) hn
  rooms := fun e he => (h.rooms e he).keep (fun id g => hk id (.inr ⟨e,he,g⟩)) hn }
theorem RsI.keep (h : RsI x t S) (hk : ∀ id,OA x t id → S'.heap id = S.heap id) (hn : S.next ≤ S'.next) : RsI x t S' := { h with toRsC := h.toRsC.keep hk hn }
theorem RsI.fr (h : RsI x t S) (hf : Fr S.next S S') : RsI x t S' := h.keep (fun id ho => hf.eq id (h.ltO ho)) hf.le
theorem RsC.fr (h : RsC x t S) (hf : Fr S.next S S') : RsC x t S' := h.keep (fun id ho => hf.eq id (h.ltO ho)) hf.le
theorem RsC.ldb (h : RsC x t S) : S.ldP (HA.fld (HA.cell0 x.w) 15) = some (some (HA.cell0 x.bk)) := row_ldP (cell_row h.cell) rfl rfl
theorem RsC.ldr (h : RsC x t S) : S.ldP (HA.fld (HA.cell0 x.w) 16) = some (some (HA.cell0 x.r)) := row_ldP (cell_row h.cell) rfl rfl
theorem RsC.ldmR (h : RsC x t S) : S.ldI .i64 (HA.fld (HA.fld (HA.cell0 x.w) 0) 7) = some x.mR := row_ldI (j := 7) (ad := HA.cell0 x.w) (cell_row h.cell) rfl rfl
theorem RsC.ldmB (h : RsC x t S) : S.ldI .i64 (HA.fld (HA.fld (HA.cell0 x.w) 0) 8) = some x.mB := row_ldI (j := 8) (ad := HA.cell0 x.w) (cell_row h.cell) rfl rfl
theorem RsI.key_uniq (h : RsI x t S) {a b : Rm} (ha : a ∈ t.R) (hb : b ∈ t.R) (hk : a.key = b.key) : a = b := by
 have hs : (t.R.map ent).Pairwise fun a b => cmpL a.1 b.1 < 0 := h.book.srt
 rw [List.pairwise_map] at hs
 obtain ⟨i,hi,rfl⟩ := List.getElem_of_mem ha
 obtain ⟨j,hj,rfl⟩ := List.getElem_of_mem hb
 have h0 : cmpL t.R[i].name t.R[j].name = 0 := (cmpL_zero _ _).2 hk
 have h0' : cmpL t.R[j].name t.R[i].name = 0 := (cmpL_zero _ _).2 hk.symm
 rcases Nat.lt_trichotomy i j with g | g | g
 ·have : cmpL t.R[i].name t.R[j].name < 0 := List.pairwise_iff_getElem.1 hs i j hi hj g
  omega
 ·subst g; rfl
 ·have : cmpL t.R[j].name t.R[i].name < 0 := List.pairwise_iff_getElem.1 hs j i hj hi g
  omega
inductive Fnd (R : List Rm) (name : List UInt8) : Option Rm → Prop
 | some {e} (he : e ∈ R) (hk : e.key = name.map low) : Fnd R name (some e)
 | none (h : ∀ e ∈ R,e.key ≠ name.map low) : Fnd R name none
def ptrOf (o : Option Rm) : Option HA := o.map fun e => HA.cell0 e.p
theorem found_ent {R : List Rm} {name : List UInt8} {i : Nat} (hp : BK.PosOf (R.map ent) name i) (hs : BK.Srt (R.map ent)) :
  ∃ o,Fnd R name o ∧ BK.foundAt (R.map ent) name i = o.isSome ∧ (BK.foundAt (R.map ent) name i = true → ∃ hi : i < R.length,o = some (R[i]'hi)) := by
 cases hf : BK.foundAt (R.map ent) name i with
 | true =>
  have hi : i < R.length := by simpa using BK.found_lt hf
  have h0 : cmpL (R[i]'hi).name name = 0 := by
   simp only [BK.foundAt,List.getElem?_eq_getElem (show i < (R.map ent).length by simpa using hi),decide_eq_true_eq] at hf
   simpa [ent] using hf
  exact ⟨some R[i],.some (List.getElem_mem hi) ((cmpL_zero _ _).1 h0),rfl,fun _ => ⟨hi,rfl⟩⟩
 | false =>
  refine ⟨none,.none fun e he hk => ?_,rfl,fun g => by cases g⟩
  exact BK.none_alike hp hs hf (ent e) (List.mem_map.2 ⟨e,he,rfl⟩) ((cmpL_zero _ _).2 hk.symm)
theorem Fnd.uniq (h : RsI x t S) {name : List UInt8} {o o' : Option Rm} (h1 : Fnd t.R name o) (h2 : Fnd t.R name o') : o = o' := by
 cases h1 with
 | some he hk =>
  cases h2 with
  | some he' hk' => rw [h.key_uniq he he' (hk.trans hk'.symm)]
  | none g => exact absurd hk (g _ he)
 | none g =>
  cases h2 with
  | some he' hk' => exact absurd hk' (g _ he')
  | none _ => rfl
theorem book_get (h : RsI x t S) (name : List UInt8) : ∃ o S',Fnd t.R name o ∧ book_Book_room_Room_Get.f (disp 2000 (n + 1)) H 2000 (some (HA.cell0 x.bk)) name S = some ((ptrOf o,o.isSome),S') ∧ Fr S.next S S' := by
 obtain ⟨i,S',hp,e1,f1⟩ := BK.get_spec (n := n) (H := H) (k := 2000) (Nat.le_refl _) h.book name
 obtain ⟨o,ho,g1,g2⟩ := found_ent hp h.book.srt
 refine ⟨o,S',ho,?_,f1⟩
 rw [e1,g1]
 cases hf : o with
 | none => rfl
 | some e =>
  have : BK.foundAt (t.R.map ent) name i = true := by rw [g1,hf]; rfl
  obtain ⟨hi,g3⟩ := g2 this
  rw [hf] at g3
  cases g3
  simp [hi,ent,ptrOf]
theorem rooms_get (h : RsI x t S) (name : List UInt8) : ∃ o S',Fnd t.R name o ∧ rooms_Rooms_Get.f (disp 2000 (n + 1)) H 2000 (some (HA.cell0 x.w)) name S = some ((ptrOf o,o.isSome),S') ∧ Fr S.next S S' := by
 obtain ⟨o,S',ho,e1,f1⟩ := book_get (n := n) (H := H) h name
 refine ⟨o,S',ho,?_,f1⟩
 rw [rooms_Rooms_Get.f,if_neg (by simp),Option.bind_some,h.ldb,Option.bind_some,e1,Option.bind_some]
theorem rooms_len (h : RsI x t S) : rooms_Rooms_Len.f (some (HA.cell0 x.w)) S = some ((t.R.length : Int),S) := by
 rw [rooms_Rooms_Len.f,if_neg (by simp),Option.bind_some,h.ldb,Option.bind_some,BK.len_spec h.book,Option.bind_some]
 simp
end
end Go.Proofs.YtbmfomkfmpppiaaGreat.X
namespace Go.Proofs.YtbmfomkfmpppiaaGreat.X
open Go.Proofs.YtbmfomkfmpppiaaGreat.HL
set_option linter.unusedVariables false
section
variable {x : W} {t : T} {S S' : HS}
theorem RsC.rel_step {n' : Nat} {E1' : List MA.En} {E2' : List MB.En} {L' : List Pr} (h : RsC x t S) (hr : RelI x.r x.m1 x.m2 n' x.mJ E1' E2' L' S') (ch : Chg (OR x.r x.m1 x.m2 t.E1 t.E2) (OR x.r x.m1 x.m2 E1' E2') S S') :
  RsC x { t with n := n',E1 := E1',E2 := E2',L := L' } S' ∧ Chg (OA x t) (OA x { t with n := n',E1 := E1',E2 := E2',L := L' }) S S' := by
 have hb : ∀ id,Own x.bk t.bs id → ¬ OR x.r x.m1 x.m2 E1' E2' id := fun id g g' => by
  rcases ch.own id g' with k | k
  ·exact h.dbr id g k
  ·have := h.book.lt g; omega
 have hw : ¬ OR x.r x.m1 x.m2 E1' E2' x.w := fun g' => by
  rcases ch.own _ g' with k | k
  ·exact h.dwr k
  ·have := h.hi; omega
 have hR : ∀ e ∈ t.R,∀ id,OwnR e id → ¬ OR x.r x.m1 x.m2 t.E1 t.E2 id := fun e he id g g' => h.dR e he id g (.inr (.inr g'))
 refine ⟨⟨(ch.eq _ h.hi h.dwr).trans h.cell,Nat.lt_of_lt_of_le h.hi ch.le,h.book.keep (fun id g => ch.eq id (h.book.lt g) (h.dbr id g)) ch.le,hr,fun e he => (h.rooms e he).keep (fun id g => ch.eq id ((h.rooms e he).lt g) (hR e he id g)) ch.le,h.dwb,hw,hb,h.pw,?_⟩,⟨ch.le,fun id g1 g2 => ch.eq id g1 (fun g => g2 (.inl (.inr (.inr g)))),?_⟩⟩
 ·rintro e he id g (g' | g' | g')
  ·exact h.dR e he id g (.inl g')
  ·exact h.dR e he id g (.inr (.inl g'))
  ·rcases ch.own id g' with k | k
   ·exact hR e he id g k
   ·have := (h.rooms e he).lt g; omega
 ·rintro id ((g | g | g) | g)
  ·exact .inl (.inl (.inl g))
  ·exact .inl (.inl (.inr (.inl g)))
  ·exact (ch.own id g).imp (fun g => .inl (.inr (.inr g))) (fun g => g)
  ·exact .inl (.inr g)
theorem RsC.room_step {A B : List Rm} {e e' : Rm} (h : RsC x t S) (hR : t.R = A ++ e :: B) (hr : RI e' S') (hp : e'.p = e.p) (hn : e'.name = e.name) (ch : Chg (OwnR e) (OwnR e') S S') :
  RsC x { t with R := A ++ e' :: B } S' ∧ Chg (OA x t) (OA x { t with R := A ++ e' :: B }) S S' := by
 have he : e ∈ t.R := by rw [hR]; simp
 have hB : ∀ id,OB x t id → id < S.next ∧ ¬ OwnR e id := fun id g => ⟨h.ltO (.inl g),fun g' => h.dR e he id g' g⟩
 have hkB : ∀ id,OB x t id → S'.heap id = S.heap id := fun id g => ch.eq id (hB id g).1 (hB id g).2
 have hpw := h.pw
 rw [hR,List.pairwise_append,List.pairwise_cons] at hpw
 obtain ⟨p1,⟨p2,p3⟩,p4⟩ := hpw
 have hoth : ∀ y,y ∈ A ∨ y ∈ B → ∀ id,OwnR y id → ¬ OwnR e id := fun y hy id g g' => by
  rcases hy with hy | hy
  ·exact p4 y hy e (by simp) id g g'
  ·exact p2 y hy id g' g
 have hmem : ∀ y,y ∈ A ∨ y ∈ B → y ∈ t.R := fun y hy => by rw [hR]; simp; rcases hy with hy | hy <;> simp [hy]
 have hnew : ∀ y,y ∈ A ∨ y ∈ B → ∀ id,OwnR y id → ¬ OwnR e' id := fun y hy id g g' => by
  rcases ch.own id g' with k | k
  ·exact hoth y hy id g k
  ·have := (h.rooms y (hmem y hy)).lt g; omega
 refine ⟨⟨(hkB _ (.inl rfl)).trans h.cell,Nat.lt_of_lt_of_le h.hi ch.le,?_,h.rel.keep (fun id g => hkB id (.inr (.inr g))) ch.le,?_,h.dwb,h.dwr,h.dbr,?_,?_⟩,⟨ch.le,fun id g1 g2 => ch.eq id g1 (fun g => g2 (.inr ⟨e,he,g⟩)),?_⟩⟩
 ·have : (A ++ e' :: B).map ent = t.R.map ent := by rw [hR]; simp [ent,hp,hn]
  show BK.BI x.bk t.bs x.mR ((A ++ e' :: B).map ent) S'
  rw [this]
  exact h.book.keep (fun id g => hkB id (.inr (.inl g))) ch.le
 ·intro y hy
  have hy : y ∈ A ++ e' :: B := hy
  simp only [List.mem_append,List.mem_cons] at hy
  have key : (y ∈ A ∨ y ∈ B) ∨ y = e' := by rcases hy with g | g | g <;> simp [g]
  rcases key with g | rfl
  ·exact (h.rooms y (hmem y g)).keep (fun id k => ch.eq id ((h.rooms y (hmem y g)).lt k) (hoth y g id k)) ch.le
  ·exact hr
 ·show (A ++ e' :: B).Pairwise _
  rw [List.pairwise_append,List.pairwise_cons]
  refine ⟨p1,⟨fun y hy id g g' => hnew y (.inr hy) id g' g,p3⟩,fun y hy z hz => ?_⟩
  rcases List.mem_cons.1 hz with rfl | hz
  ·exact hnew y (.inl hy)
  ·exact p4 y hy z (by simp [hz])
 ·intro y hy id g g'
  have hy : y ∈ A ++ e' :: B := hy
  simp only [List.mem_append,List.mem_cons] at hy
  have key : (y ∈ A ∨ y ∈ B) ∨ y = e' := by rcases hy with g | g | g <;> simp [g]
  rcases key with k | rfl
  ·exact h.dR y (hmem y k) id g g'
  ·rcases ch.own id g with k | k
   ·exact (hB id g').2 k
   ·have := (hB id g').1; omega
 ·rintro id (g | ⟨y,hy,g⟩)
  ·exact .inl (.inl g)
  ·have hy : y ∈ A ++ e' :: B := hy
   simp only [List.mem_append,List.mem_cons] at hy
   have key : (y ∈ A ∨ y ∈ B) ∨ y = e' := by rcases hy with g | g | g <;> simp [g]
   rcases key with k | rfl
   ·exact .inl (.inr ⟨y,hmem y k,g⟩)
   ·exact (ch.own id g).imp (fun g => .inr ⟨e,he,g⟩) (fun g => g)
theorem RsC.book_step {bs' : Sl} {R' : List Rm} (h : RsC x t S) (hb : BK.BI x.bk bs' x.mR (R'.map ent) S') (on : Only x.bk t.bs bs' S S') (hr : ∀ e ∈ R',RI e S) (hpw : R'.Pairwise fun a b => ∀ id,OwnR a id → ¬ OwnR b id) (hd : ∀ e ∈ R',∀ id,OwnR e id → ¬ OB x t id) :
  RsC x { t with bs := bs',R := R' } S' ∧ S.next ≤ S'.next ∧ (∀ id,id < S.next → ¬ OA x t id → S'.heap id = S.heap id) := by
 have hk : ∀ id,id < S.next → ¬ Own x.bk t.bs id → S'.heap id = S.heap id := on.eq
 have hw : ¬ Own x.bk bs' x.w := fun g => by
  rcases on.own _ g with k | k
  ·exact h.dwb k
  ·have := h.hi; omega
 refine ⟨⟨(hk _ h.hi h.dwb).trans h.cell,Nat.lt_of_lt_of_le h.hi on.le,hb,h.rel.keep (fun id g => hk id (h.rel.ltO g) (fun g' => h.dbr id g' g)) on.le,fun e he => (hr e he).keep (fun id g => hk id ((hr e he).lt g) (fun g' => hd e he id g (.inr (.inl g')))) on.le,hw,h.dwr,fun id g g' => ?_,hpw,?_⟩,on.le,fun id g1 g2 => hk id g1 (fun g => g2 (.inl (.inr (.inl g))))⟩
 ·rcases on.own id g with k | k
  ·exact h.dbr id k g'
  ·have := h.rel.ltO g'; omega
 ·rintro e he id g (g' | g' | g')
  ·exact hd e he id g (.inl g')
  ·rcases on.own id g' with k | k
   ·exact hd e he id g (.inr (.inl k))
   ·have := (hr e he).lt g; omega
  ·exact hd e he id g (.inr (.inr g'))
end
end Go.Proofs.YtbmfomkfmpppiaaGreat.X
namespace Go.Proofs.YtbmfomkfmpppiaaGreat.X
open Go.Proofs.YtbmfomkfmpppiaaGreat.HL
set_option linter.unusedVariables false
theorem nodup_sub {α : Type} [DecidableEq α] : ∀ (l m : List α),l.Nodup → (∀ x ∈ l,x ∈ m) → l.length ≤ m.length := by
 intro l
 induction l with
 | nil => intro m _ _; simp
 | cons x l ih =>
  intro m hn hs
  have hn' := List.nodup_cons.1 hn
  have h1 := ih (m.erase x) hn'.2 fun y hy => (List.mem_erase_of_ne (by rintro rfl; exact hn'.1 hy)).2 (hs y (by simp [hy]))
  have hx := hs x (by simp)
  rw [List.length_erase_of_mem hx] at h1
  have := List.length_pos_of_mem hx
  rw [List.length_cons]; omega
abbrev Ac := Int × Int × List UInt8
def actRow (a : Ac) : List HV := [.int .i64 a.1,.int .i64 a.2.1,.str a.2.2]
theorem srt_nodupS {xs : List KS.Ky} (h : KS.Srt xs) : xs.Nodup := h.imp fun {a b} h e => by subst e; rw [KS.klt_irrefl] at h; cases h
theorem new_rel {most : Int} (h0 : 0 ≤ most) (h1 : most ≤ 100000) (S : HS) : ∃ S',pair_New_int_string.f most S = some ((some (HA.cell0 (S.next + 2)),0),S') ∧ RelI (S.next + 2) S.next (S.next + 1) 0 most [] [] [] S' ∧ Fr S.next S S' ∧ S'.next = S.next + 3 ∧ (∀ id,OR (S.next + 2) S.next (S.next + 1) [] [] id → S.next ≤ id) := by
 rw [pair_New_int_string.f,if_neg (by omega),pair_New_int_string.J0,if_neg (by rw [decide_eq_false (by omega)]; simp),letv,letv,letv]
 have e1 : ((S.new (.map [])).new (.map [])).heap S.next = .map [] := by rw [new_old _ (by rw [new_next]; omega)]; exact new_here _ _
 have e2 : ((S.new (.map [])).new (.map [])).heap (S.next + 1) = .map [] := new_here (S.new _) _
 have n2 : ((S.new (.map [])).new (.map [])).next = S.next + 2 := rfl
 have f2 : Fr S.next S ((S.new (.map [])).new (.map [])) := (Fr.new (Nat.le_refl _) _).trans (Fr.new (by rw [new_next]; omega) _)
 rw [show (S.new (.map [])).next = S.next + 1 from rfl,n2]
 generalize (S.new (.map [])).new (.map []) = T at e1 e2 n2 f2 ⊢
 have f3 : Fr T.next T (T.new (.cells 4 [[.int .i64 most,.int .i64 0,.map (some S.next),.map (some (S.next + 1))]] true)) := Fr.new (Nat.le_refl _) _
 refine ⟨_,rfl,⟨by rw [← n2]; exact new_here _ _,⟨(f3.eq _ (by omega)).trans e1,List.Pairwise.nil,fun e h => (by cases h),List.Pairwise.nil,fun e h => (by cases h),by rw [new_next]; omega⟩,⟨(f3.eq _ (by omega)).trans e2,List.Pairwise.nil,fun e h => (by cases h),List.Pairwise.nil,fun e h => (by cases h),by rw [new_next]; omega⟩,fun id g1 g2 => ?_,fun g => ?_,fun g => ?_,by rw [new_next]; omega,fun a b => ⟨fun ⟨e,h,_⟩ => (by cases h),fun h => (by cases h)⟩,fun a b => ⟨fun ⟨e,h,_⟩ => (by cases h),fun h => (by cases h)⟩,fun e h => (by cases h),fun e h => (by cases h),fun e h => (by cases h),fun e h => (by cases h),List.nodup_nil,Nat.le_refl _,by omega⟩,f2.trans (f3.mono (by omega)),by rw [new_next]; omega,fun id g => ?_⟩
 ·rcases g1 with g1 | ⟨e,h,_⟩
  ·rcases g2 with g2 | ⟨e,h,_⟩
   ·omega
   ·cases h
  ·cases h
 ·rcases g with g | ⟨e,h,_⟩
  ·omega
  ·cases h
 ·rcases g with g | ⟨e,h,_⟩
  ·omega
  ·cases h
 ·rcases g with g | (g | ⟨e,h,_⟩) | (g | ⟨e,h,_⟩)
  ·omega
  ·omega
  ·cases h
  ·omega
  ·cases h
theorem link_add {A B : List Rm} {e e' : Rm} {L : List Pr} {id : Int} (h : ∀ a b,(a,b) ∈ L ↔ ∃ y ∈ A ++ e :: B,y.key = b ∧ a ∈ y.ids) (hk : e'.key = e.key) (hi : ∀ a,a ∈ e'.ids ↔ a ∈ e.ids ∨ a = id) :
  ∀ a b,(a,b) ∈ L ++ [(id,e.key)] ↔ ∃ y ∈ A ++ e' :: B,y.key = b ∧ a ∈ y.ids := by
 intro a b
 rw [List.mem_append,h]
 constructor
 ·rintro (⟨y,hy,h1,h2⟩ | g)
  ·simp only [List.mem_append,List.mem_cons] at hy
   rcases hy with g | rfl | g
   ·exact ⟨y,by simp [g],h1,h2⟩
   ·exact ⟨e',by simp,hk.trans h1,(hi a).2 (.inl h2)⟩
   ·exact ⟨y,by simp [g],h1,h2⟩
  ·simp only [List.mem_singleton,Prod.mk.injEq] at g
   exact ⟨e',by simp,hk.trans g.2.symm,(hi a).2 (.inr g.1)⟩
 ·rintro ⟨y,hy,h1,h2⟩
  simp only [List.mem_append,List.mem_cons] at hy
  rcases hy with g | rfl | g
  ·exact .inl ⟨y,by simp [g],h1,h2⟩
  ·rcases (hi a).1 h2 with g | rfl
   ·exact .inl ⟨e,by simp,hk.symm.trans h1,g⟩
   ·exact .inr (by simp [← h1,hk])
  ·exact .inl ⟨y,by simp [g],h1,h2⟩
theorem cnt_add {L : List Pr} {mJ : Int} {id : Int} {b : List UInt8} {xs : List KS.Ky} (h : ∀ a xs,KS.Srt xs → (∀ v,v ∈ xs ↔ (a,v) ∈ L) → (xs.length : Int) ≤ mJ) (hm : ∀ v,v ∈ xs ↔ (id,v) ∈ L) (hlt : (xs.length : Int) < mJ) :
  ∀ a ys,KS.Srt ys → (∀ v,v ∈ ys ↔ (a,v) ∈ L ++ [(id,b)]) → (ys.length : Int) ≤ mJ := by
 intro a ys hs hy
 by_cases ha : a = id
 ·subst ha
  have := nodup_sub ys (b :: xs) (srt_nodupS hs) (fun v hv => by
   have := (hy v).1 hv
   simp only [List.mem_append,List.mem_singleton,Prod.mk.injEq,true_and] at this
   rcases this with g | g
   ·exact List.mem_cons_of_mem _ ((hm v).2 g)
   ·rw [g]; simp)
  simp at this; omega
 ·refine h a ys hs fun v => ?_
  rw [hy]
  simp [ha]
section
variable {x : W} {t : T} {S : HS} {n : Nat} {H : Hd}
theorem RsI.mono {n' : Nat} {E1' : List MA.En} {E2' : List MB.En} {S' : HS} (h : RsI x t S) (hc : RsC x { t with n := n',E1 := E1',E2 := E2' } S') (hn : t.n ≤ n') : RsI x { t with n := n',E1 := E1',E2 := E2' } S' :=
 { hc with link := h.link,ne := h.ne,cm := fun e he => Nat.le_trans (h.cm e he) hn,cR := Nat.le_trans h.cR hn,mR0 := h.mR0,mR1 := h.mR1,mJ0 := h.mJ0,mJ1 := h.mJ1,cntR := h.cntR,cntJ := h.cntJ }
theorem ids_of_ins {e e' : Rm} {id : Int} {op : Bool} (h : ∃ i,e'.ms = e.ms.take i ++ [(id,op,false)] ++ e.ms.drop i) : (∀ a,a ∈ e'.ids ↔ a ∈ e.ids ∨ a = id) ∧ e'.ms.length = e.ms.length + 1 := by
 obtain ⟨i,h⟩ := h
 constructor
 ·intro a
  unfold Rm.ids
  rw [h]
  have : e.ms.map (·.1) = (e.ms.take i).map (·.1) ++ (e.ms.drop i).map (·.1) := by rw [← List.map_append,List.take_append_drop]
  rw [this]
  simp only [List.map_append,List.mem_append,List.map_cons,List.map_nil,List.mem_singleton]
  constructor
  ·rintro ((g | g) | g)
   ·exact .inl (.inl g)
   ·exact .inr g
   ·exact .inl (.inr g)
  ·rintro ((g | g) | g)
   ·exact .inl (.inl g)
   ·exact .inr g
   ·exact .inl (.inr g)
 ·rw [h]
  have := congrArg List.length (List.take_append_drop i e.ms)
  simp only [List.length_append,List.length_singleton] at this ⊢
  omega
theorem come {A B : List Rm} {e : Rm} {L0 : List Pr} {id : Int} {op : Bool} {xs : List KS.Ky} (hC : RsC x t S) (hR : t.R = A ++ e :: B) (hL : t.L = L0 ++ [(id,e.key)])
  (link0 : ∀ a b,(a,b) ∈ L0 ↔ ∃ y ∈ A ++ e :: B,y.key = b ∧ a ∈ y.ids) (hnot : id ∉ e.ids)
  (ne0 : ∀ y ∈ A ++ B,y.ms ≠ []) (cm0 : ∀ y ∈ t.R,y.ms.length + 1 ≤ t.n) (cR0 : t.R.length ≤ t.n) (hn : t.n ≤ 200)
  (mR0 : 0 ≤ x.mR) (mR1 : x.mR ≤ 1000) (mJ0 : 0 ≤ x.mJ) (mJ1 : x.mJ ≤ 1000) (cntR : (t.R.length : Int) ≤ x.mR)
  (cnt0 : ∀ a xs,KS.Srt xs → (∀ v,v ∈ xs ↔ (a,v) ∈ L0) → (xs.length : Int) ≤ x.mJ) (hxs : ∀ v,v ∈ xs ↔ (id,v) ∈ L0) (hlt : (xs.length : Int) < x.mJ) :
  ∃ e' S',room_Room_Add.f (disp 2000 (n + 1)) H 2000 (some (HA.cell0 e.p)) id op S = some ((),S') ∧ RsI x { t with R := A ++ e' :: B } S' ∧ e'.p = e.p ∧ e'.name = e.name ∧ (∃ i,e'.ms = e.ms.take i ++ [(id,op,false)] ++ e.ms.drop i) ∧ Chg (OA x t) (OA x { t with R := A ++ e' :: B }) S S' := by
 have he : e ∈ t.R := by rw [hR]; simp
 have hcm := cm0 e he
 obtain ⟨e',S',e1,h1,h2,h3,h4,h5⟩ := room_add (n := n) (H := H) (k := 2000) (Nat.le_refl _) (hC.rooms e he) id op hnot (by omega)
 obtain ⟨c1,c2⟩ := hC.room_step hR h1 h2 h3 h5
 obtain ⟨i1,i2⟩ := ids_of_ins h4
 have hk : e'.key = e.key := by unfold Rm.key; rw [h3]
 have hlen : (A ++ e' :: B).length = t.R.length := by rw [hR]; simp
 refine ⟨e',S',e1,{ c1 with link := ?_,ne := ?_,cm := ?_,cR := ?_,mR0 := mR0,mR1 := mR1,mJ0 := mJ0,mJ1 := mJ1,cntR := ?_,cntJ := ?_ },h2,h3,h4,c2⟩
 ·show ∀ a b,(a,b) ∈ t.L ↔ _
  rw [hL]
  exact link_add link0 hk i1
 ·intro y hy
  have hy : y ∈ A ++ e' :: B := hy
  simp only [List.mem_append,List.mem_cons] at hy
  rcases hy with g | rfl | g
  ·exact ne0 y (by simp [g])
  ·intro g; rw [g] at i2; simp at i2
  ·exact ne0 y (by simp [g])
 ·intro y hy
  have hy : y ∈ A ++ e' :: B := hy
  simp only [List.mem_append,List.mem_cons] at hy
  rcases hy with g | rfl | g
  ·have := cm0 y (by rw [hR]; simp [g]); show y.ms.length ≤ t.n; omega
  ·show y.ms.length ≤ t.n; omega
  ·have := cm0 y (by rw [hR]; simp [g]); show y.ms.length ≤ t.n; omega
 ·show (A ++ e' :: B).length ≤ t.n
  omega
 ·show ((A ++ e' :: B).length : Int) ≤ x.mR
  omega
 ·show ∀ a xs,KS.Srt xs → (∀ v,v ∈ xs ↔ (a,v) ∈ t.L) → _
  rw [hL]
  exact cnt_add cnt0 hxs hlt
end
end Go.Proofs.YtbmfomkfmpppiaaGreat.X
namespace Go.Proofs.YtbmfomkfmpppiaaGreat.X
open Go.Proofs.YtbmfomkfmpppiaaGreat.HL
set_option linter.unusedVariables false
section
variable {x : W} {t : T} {S : HS} {n : Nat} {H : Hd}
inductive JRes (x : W) (t : T) (id : Int) (name : List UInt8) : Option HA → Int → List Rm → List Pr → Prop
 | stay {e} (he : e ∈ t.R) (hk : e.key = name.map low) (hin : id ∈ e.ids) : JRes x t id name (some (HA.cell0 e.p)) 0 t.R t.L
 | full (hnot : (id,name.map low) ∉ t.L) (hf : (∀ xs,KS.Srt xs → (∀ v,v ∈ xs ↔ (id,v) ∈ t.L) → x.mJ ≤ (xs.length : Int)) ∨ (∀ e ∈ t.R,e.key ≠ name.map low) ∧ x.mR ≤ (t.R.length : Int)) : JRes x t id name none 405 t.R t.L
 | come {A B e e'} (hR : t.R = A ++ e :: B) (hk : e.key = name.map low) (hnot : id ∉ e.ids) (hp : e'.p = e.p) (hn : e'.name = e.name) (hms : ∃ i,e'.ms = e.ms.take i ++ [(id,false,false)] ++ e.ms.drop i)
   (hc : ∀ xs,KS.Srt xs → (∀ v,v ∈ xs ↔ (id,v) ∈ t.L) → (xs.length : Int) < x.mJ) : JRes x t id name (some (HA.cell0 e'.p)) 0 (A ++ e' :: B) (t.L ++ [(id,name.map low)])
 | new {i e'} (hno : ∀ e ∈ t.R,e.key ≠ name.map low) (hn : e'.name = name) (hms : e'.ms = [(id,true,false)]) (hl : (t.R.length : Int) < x.mR)
   (hc : ∀ xs,KS.Srt xs → (∀ v,v ∈ xs ↔ (id,v) ∈ t.L) → (xs.length : Int) < x.mJ) : JRes x t id name (some (HA.cell0 e'.p)) 0 (t.R.take i ++ e' :: t.R.drop i) (t.L ++ [(id,name.map low)])
def Joined (x : W) (t : T) (S : HS) (id : Int) (name : List UInt8) (r : Option (((Option HA) × Int) × HS)) : Prop :=
 ∃ q c t' S',r = some ((q,c),S') ∧ RsI x t' S' ∧ t'.n = t.n + 1 ∧ Chg (OA x t) (OA x t') S S' ∧ JRes x t id name q c t'.R t'.L
theorem Joined.pre {S1 : HS} {id : Int} {name : List UInt8} {r : Option (((Option HA) × Int) × HS)} (f : Fr S.next S S1) (h : Joined x t S1 id name r) : Joined x t S id name r := by
 obtain ⟨q,c,t',S',e,h1,h2,h3,h4⟩ := h
 exact ⟨q,c,t',S',e,h1,h2,(Chg.of_fr f).trans h3,h4⟩
theorem key_ids (h : RsI x t S) {e : Rm} (he : e ∈ t.R) (id : Int) : (id,e.key) ∈ t.L ↔ id ∈ e.ids := by
 rw [h.link]
 constructor
 ·rintro ⟨y,hy,h1,h2⟩
  rw [← h.key_uniq hy he h1]; exact h2
 ·intro g; exact ⟨e,he,rfl,g⟩
theorem join_there (h : RsI x t S) (hn : t.n + 1 ≤ 200) {e : Rm} (he : e ∈ t.R) (id : Int) (name : List UInt8) (hnot : id ∉ e.ids) (hkn : e.key = name.map low) :
  Joined x t S id name (rooms_Rooms_Join.J1 (disp 2000 (n + 1)) H 2000 (some (HA.cell0 x.w)) id name (some (HA.cell0 e.p)) true e.key S) := by
 obtain ⟨xs,k1,k2,k3,k4⟩ := h.rel.at1 id
 have hnL : (id,e.key) ∉ t.L := fun g => hnot ((key_ids h he id).1 g)
 obtain ⟨E1',E2',S2,e1,g1,g2⟩ := add_rel (k := 2000) (Nat.le_refl _) h.rel (by omega) id e.key k1 k2
 rw [if_neg hnL] at e1 g1
 obtain ⟨c1,c2⟩ := h.toRsC.rel_step g1 g2
 rw [rooms_Rooms_Join.J1,Option.bind_some,h.ldr,Option.bind_some,e1,Option.bind_some]
 by_cases hf : x.mJ ≤ (xs.length : Int)
 ·rw [if_pos hf] at c1 c2 ⊢
  rw [if_pos (by rfl)]
  exact ⟨none,405,_,S2,rfl,h.mono c1 (Nat.le_succ _),rfl,c2,.full (hkn ▸ hnL) (.inl (fun ys k3 k4 => by rw [KS.srt_ext k3 k1 fun v => by rw [k4,k2]]; exact hf))⟩
 ·rw [if_neg hf] at c1 c2 ⊢
  rw [if_neg (by simp),if_neg (by simp),rooms_Rooms_Join.J2]
  obtain ⟨A,B,hR⟩ := List.append_of_mem he
  have hne := h.ne
  obtain ⟨e',S',e3,r1,r2,r3,r4,r5⟩ := come (n := n) (H := H) (t := { t with n := t.n + 1,E1 := E1',E2 := E2',L := t.L ++ [(id,e.key)] }) (A := A) (B := B) (e := e) (L0 := t.L) (id := id) (op := !true) (xs := xs) c1 hR rfl (by rw [← hR]; exact h.link) hnot (fun y hy => hne y (by rw [hR]; simp only [List.mem_append,List.mem_cons] at hy ⊢; rcases hy with g | g <;> simp [g])) (fun y hy => Nat.succ_le_succ (h.cm y hy)) (Nat.le_succ_of_le h.cR) hn h.mR0 h.mR1 h.mJ0 h.mJ1 h.cntR h.cntJ k2 (by omega)
  rw [e3,Option.bind_some]
  refine ⟨_,0,_,S',rfl,r1,rfl,c2.trans r5,?_⟩
  have := JRes.come (x := x) (t := t) (id := id) (name := name) (e' := e') hR hkn hnot r2 r3 r4 (fun ys k3 k4 => by rw [KS.srt_ext k3 k1 fun v => by rw [k4,k2]]; omega)
  rw [← hkn,r2] at this
  exact this
theorem join_new (h : RsI x t S) (hn : t.n + 1 ≤ 200) (id : Int) (name : List UInt8) (hl : name.length ≤ 1000) (hno : ∀ e ∈ t.R,e.key ≠ name.map low) :
  Joined x t S id name (rooms_Rooms_Join.J0 (disp 2000 (n + 1)) H 2000 (some (HA.cell0 x.w)) id name none false (name.map low) false S) := by
 obtain ⟨e0,S1,e1,h1,hnm,hms,hfr,f1⟩ := room_new (k := 2000) (S := S) (Nat.le_refl _) name x.mB
 have hS1 := h.fr f1
 rw [rooms_Rooms_Join.J0,if_neg (by simp),if_pos (by rfl),Option.bind_some,h.ldmB,Option.bind_some,e1,Option.bind_some,Option.bind_some]
 simp only
 rw [hS1.ldb,Option.bind_some,BK.len_spec hS1.book,Option.bind_some,Option.bind_some]
 simp only
 rw [hS1.ldmR,Option.bind_some,Option.bind_some,if_pos rfl,List.length_map]
 have hout : ∀ id,OwnR e0 id → ¬ OA x t id := fun i g g' => by have := h.ltO g'; have := hfr i g; omega
 have hnL : (id,name.map low) ∉ t.L := fun g => by
  obtain ⟨y,hy,g1,_⟩ := (h.link _ _).1 g
  exact hno y hy g1
 by_cases hfull : (t.R.length : Int) ≥ x.mR
 ·rw [if_pos hfull]
  refine Joined.pre f1 ?_
  exact ⟨none,405,{ t with n := t.n + 1 },S1,rfl,hS1.mono { hS1.toRsC with rel := hS1.rel.mono (Nat.le_succ _) (by show t.n + 1 ≤ 900; omega) } (Nat.le_succ _),rfl,Chg.refl _ _,.full hnL (.inr ⟨hno,hfull⟩)⟩
 rw [if_neg hfull]
 have hkey : e0.key = name.map low := by unfold Rm.key; rw [hnm]
 obtain ⟨xs,k1,k2,k3,k4⟩ := hS1.rel.at1 id
 obtain ⟨E1',E2',S2,e2,g1,g2⟩ := add_rel (k := 2000) (Nat.le_refl _) hS1.rel (by omega) id (name.map low) k1 k2
 rw [if_neg hnL] at e2 g1
 obtain ⟨c1,c2⟩ := hS1.toRsC.rel_step g1 g2
 rw [rooms_Rooms_Join.J1,Option.bind_some,hS1.ldr,Option.bind_some,e2,Option.bind_some]
 by_cases hf : x.mJ ≤ (xs.length : Int)
 ·rw [if_pos hf] at c1 c2 ⊢
  rw [if_pos (by rfl)]
  refine Joined.pre f1 ?_
  exact ⟨none,405,_,S2,rfl,hS1.mono c1 (Nat.le_succ _),rfl,c2,.full hnL (.inl (fun ys k3 k4 => by rw [KS.srt_ext k3 k1 fun v => by rw [k4,k2]]; exact hf))⟩
 rw [if_neg hf] at c1 c2 ⊢
 rw [if_neg (by simp),if_pos (by rfl),Option.bind_some]
 simp only
 rw [c1.ldb,Option.bind_some]
 have hcR := h.cR
 obtain ⟨i,bs',S3,hp,e3,b1,on⟩ := BK.put_spec (n := n) (H := H) (k := 2000) (Nat.le_refl _) c1.book (by simp; omega) name (some (HA.cell0 e0.p)) hl
 have hnf : BK.foundAt (t.R.map ent) name i = false := by
  obtain ⟨o,ho,q1,q2⟩ := found_ent hp h.book.srt
  cases ho with
  | some hy hk => exact absurd hk (hno _ hy)
  | none _ => exact q1
 have hnf2 : ¬ (((t.R.map ent).length : Int) ≥ x.mR) := by simpa using hfull
 simp only [BK.putL,hnf,Bool.false_eq_true,if_false,if_neg hnf2] at b1
 have hmap : (t.R.map ent).take i ++ [(name,some (HA.cell0 e0.p))] ++ (t.R.map ent).drop i = (t.R.take i ++ e0 :: t.R.drop i).map ent := by
  simp [ent,hnm,List.map_take,List.map_drop]
 rw [hmap] at b1
 have hsub : ∀ y,y ∈ t.R.take i ++ e0 :: t.R.drop i → y ∈ t.R ∨ y = e0 := fun y hy => by
  simp only [List.mem_append,List.mem_cons] at hy
  rcases hy with g | g | g
  ·exact .inl (List.mem_of_mem_take g)
  ·exact .inr g
  ·exact .inl (List.mem_of_mem_drop g)
 have hri0 : RI e0 S2 := h1.keep (fun y g => g2.eq y (h1.lt g) (fun g' => hout y g (.inl (.inr (.inr g'))))) g2.le
 have hOB : ∀ y,OwnR e0 y → ¬ OB x { t with n := t.n + 1,E1 := E1',E2 := E2',L := t.L ++ [(id,name.map low)] } y := fun y g g' => by
  rcases c2.own y (.inl g') with k | k
  ·exact hout y g k
  ·have := h1.lt g; omega
 obtain ⟨d1,d2,d3⟩ := c1.book_step (R' := t.R.take i ++ e0 :: t.R.drop i) b1 on (fun y hy => by
   rcases hsub y hy with g | rfl
   ·exact c1.rooms y g
   ·exact hri0) (by
   have hpw := h.pw
   rw [← List.take_append_drop i t.R,List.pairwise_append] at hpw
   rw [List.pairwise_append,List.pairwise_cons]
   refine ⟨hpw.1,⟨fun y hy z g g' => hout z g (.inr ⟨y,List.mem_of_mem_drop hy,g'⟩),hpw.2.1⟩,fun y hy z hz => ?_⟩
   rcases List.mem_cons.1 hz with rfl | hz
   ·intro w g g'; exact hout w g' (.inr ⟨y,List.mem_of_mem_take hy,g⟩)
   ·exact hpw.2.2 y hy z hz) (fun y hy z g => by
   rcases hsub y hy with k | rfl
   ·exact c1.dR y k z g
   ·exact hOB z g)
 rw [e3,Option.bind_some,rooms_Rooms_Join.J2]
 have hnil : e0.ids = [] := by unfold Rm.ids; rw [hms]; rfl
 have hlenR : (t.R.take i ++ e0 :: t.R.drop i).length = t.R.length + 1 := by
  have := congrArg List.length (List.take_append_drop i t.R)
  simp only [List.length_append,List.length_cons] at this ⊢; omega
 have hcm := h.cm
 obtain ⟨e',S',e5,r1,r2,r3,r4,r5⟩ := come (n := n) (H := H) (t := { t with bs := bs',n := t.n + 1,E1 := E1',E2 := E2',L := t.L ++ [(id,name.map low)],R := t.R.take i ++ e0 :: t.R.drop i }) (A := t.R.take i) (B := t.R.drop i) (e := e0) (L0 := t.L) (id := id) (op := !false) (xs := xs) d1 rfl (by rw [hkey]) (fun a b => by
   rw [h.link]
   constructor
   ·rintro ⟨y,hy,q1,q2⟩
    refine ⟨y,?_,q1,q2⟩
    rw [← List.take_append_drop i t.R] at hy
    simp only [List.mem_append,List.mem_cons] at hy ⊢
    rcases hy with g | g <;> simp [g]
   ·rintro ⟨y,hy,q1,q2⟩
    rcases hsub y hy with g | rfl
    ·exact ⟨y,g,q1,q2⟩
    ·rw [hnil] at q2; cases q2) (by rw [hnil]; simp) (fun y hy => h.ne y (by rw [List.take_append_drop] at hy; exact hy)) (fun y hy => by
   rcases hsub y hy with g | rfl
   ·exact Nat.succ_le_succ (h.cm y g)
   ·rw [hms]; exact Nat.succ_le_succ (Nat.zero_le _)) (by show (t.R.take i ++ e0 :: t.R.drop i).length ≤ t.n + 1; omega) hn h.mR0 h.mR1 h.mJ0 h.mJ1 (by show ((t.R.take i ++ e0 :: t.R.drop i).length : Int) ≤ x.mR; omega) h.cntJ k2 (by omega)
 rw [e5,Option.bind_some]
 have hJ : JRes x t id name (some (HA.cell0 e'.p)) 0 (t.R.take i ++ e' :: t.R.drop i) (t.L ++ [(id,name.map low)]) := by
  refine .new hno (r3.trans hnm) ?_ (by omega) (fun ys k3 k4 => by rw [KS.srt_ext k3 k1 fun v => by rw [k4,k2]]; omega)
  obtain ⟨j,hj⟩ := r4
  rw [hj,hms]; simp
 refine ⟨_,0,_,S',rfl,r1,rfl,?_,by rw [r2] at hJ; exact hJ⟩
 have l2 := g2.le
 have hcase : ∀ y,OA x { t with bs := bs',n := t.n + 1,E1 := E1',E2 := E2',L := t.L ++ [(id,name.map low)],R := t.R.take i ++ e0 :: t.R.drop i } y → OA x t y ∨ S.next ≤ y := by
  rintro y ((g | g | g) | ⟨z,hz,g⟩)
  ·exact .inl (.inl (.inl g))
  ·rcases on.own y g with k | k
   ·exact .inl (.inl (.inr (.inl k)))
   ·exact .inr (by have := f1.le; omega)
  ·rcases g2.own y g with k | k
   ·exact .inl (.inl (.inr (.inr k)))
   ·exact .inr (by have := f1.le; omega)
  ·rcases hsub z hz with k | rfl
   ·exact .inl (.inr ⟨z,k,g⟩)
   ·exact .inr (hfr y g)
 have hcase1 : ∀ y,OA x { t with n := t.n + 1,E1 := E1',E2 := E2',L := t.L ++ [(id,name.map low)] } y → OA x t y ∨ S.next ≤ y := fun y g => (c2.own y g).imp (fun g => g) (fun g => by have := f1.le; omega)
 have l1 := f1.le
 have l5 := r5.le
 refine ⟨by omega,fun y q1 q2 => ?_,fun y g => ?_⟩
 ·rw [r5.eq y (by omega) (fun g => (hcase y g).elim q2 (fun g => by omega)),d3 y (by omega) (fun g => (hcase1 y g).elim q2 (fun g => by omega)),c2.eq y (by omega) q2,f1.eq y q1]
 ·rcases r5.own y g with k | k
  ·exact hcase y k
  ·exact .inr (by omega)
theorem join_spec (h : RsI x t S) (hn : t.n + 1 ≤ 200) (id : Int) (name : List UInt8) (hl : name.length ≤ 1000) : Joined x t S id name (rooms_Rooms_Join.f (disp 2000 (n + 1)) H 2000 (some (HA.cell0 x.w)) id name S) := by
 obtain ⟨o,S1,ho,e1,f1⟩ := book_get (n := n) (H := H) h name
 obtain ⟨S2,e2,f2⟩ := text_spec (k := 2000) (m := S1.next) (x := name) (S := S1) (by omega) (by omega) (Nat.le_refl _)
 have h2 := (h.fr f1).fr f2
 rw [rooms_Rooms_Join.f,if_neg (by simp),Option.bind_some,h.ldb,Option.bind_some,e1,Option.bind_some,e2,Option.bind_some]
 refine Joined.pre f1 (Joined.pre f2 ?_)
 cases ho with
 | @some e he hk =>
  rw [if_pos (by rfl),Option.bind_some,h2.ldr,Option.bind_some,has_rel (Nat.le_refl _) h2.rel,Option.bind_some]
  simp only [← hk]
  by_cases hin : id ∈ e.ids
  ·rw [decide_eq_true ((key_ids h he id).2 hin),rooms_Rooms_Join.J0,if_pos rfl]
   exact ⟨_,0,{ t with n := t.n + 1 },S2,rfl,h2.mono { h2.toRsC with rel := h2.rel.mono (Nat.le_succ _) (by show t.n + 1 ≤ 900; omega) } (Nat.le_succ _),rfl,Chg.refl _ _,.stay he hk hin⟩
  ·rw [decide_eq_false (fun g => hin ((key_ids h he id).1 g)),rooms_Rooms_Join.J0,if_neg (by simp),if_neg (by simp)]
   exact join_there h2 hn he id name hin hk
 | none hno =>
  rw [if_neg (by simp)]
  exact join_new h2 hn id name hl hno
end
end Go.Proofs.YtbmfomkfmpppiaaGreat.X
