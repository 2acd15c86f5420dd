/- All of them: what each call answers. Calls of a law's own function, by what was run of them. Functions of the program, each as a Lean function over the layer HL: a call answers what the Lean function answers, where it answers. The law WholeLimit, plain: its own function, run at the nine inputs that differ, over what its calls answer. -/
import Derived.Test.YtfningkbcfhheaaGreatDoorWv1
import Derived.Test.YtfningkbcfhheaaGreatDoorWv2
import Derived.Test.YtfningkbcfhheaaGreatDoorWv3
import Derived.Test.YtfningkbcfhheaaGreatDoorWv4
import Derived.Test.YtfningkbcfhheaaGreatDoorWv5
import Derived.Test.YtfningkbcfhheaaGreatDoorWv6
import Derived.Test.YtfningkbcfhheaaGreatDoorWv7
import Derived.Test.YtfningkbcfhheaaGreatDoorWv8
import Derived.Test.YtfningkbcfhheaaGreatDoorWv9
import Derived.Test.YtfningkbcfhheaaGreatDoorWv10
import Derived.Test.YtfningkbcfhheaaGreatDoorWv11
import Derived.Test.YtfningkbcfhheaaGreatDoorWv12
import Derived.Test.YtfningkbcfhheaaGreatDoorWv13
import Derived.Test.YtfningkbcfhheaaGreatDoorWv14
import Derived.Test.YtfningkbcfhheaaGreatDoorWv15
import Derived.Test.YtfningkbcfhheaaGreatDoorPart11
import Derived.Test.YtfningkbcfhheaaGreatDoorProg
set_option linter.unusedVariables false
set_option linter.unusedSimpArgs false
namespace Go.Proofs.YtfningkbcfhheaaGreatDoor.X
open Go.Proofs.YtfningkbcfhheaaGreatDoor.HL
set_option linter.unusedVariables false
noncomputable section
def lall : List (FuncId × Seg) := l1 ++ (l2 ++ (l3 ++ (l4 ++ (l5 ++ (l6 ++ (l7 ++ (l8 ++ (l9 ++ (l10 ++ (l11 ++ (l12 ++ (l13 ++ (l14 ++ (l15 ++ (l16 ++ (l17 ++ (l18 ++ (l19 ++ (l20 ++ (l21 ++ (l22 ++ (l23 ++ (l24 ++ (l25 ++ (l26 ++ (l27 ++ (l28 ++ (l29))))))))))))))))))))))))))))
theorem lall_ok : ∀ q ∈ lall, SegOk Tryz.prog q.1 q.2 := (app_ok (segsB_ok Kr_ok g1) (app_ok (segsB_ok Kr_ok g2) (app_ok (segsB_ok Kr_ok g3) (app_ok (segsB_ok Kr_ok g4) (app_ok (segsB_ok Kr_ok g5) (app_ok (segsB_ok Kr_ok g6) (app_ok (segsB_ok Kr_ok g7) (app_ok (segsB_ok Kr_ok g8) (app_ok (segsB_ok Kr_ok g9) (app_ok (segsB_ok Kr_ok g10) (app_ok (segsB_ok Kr_ok g11) (app_ok (segsB_ok Kr_ok g12) (app_ok (segsB_ok Kr_ok g13) (app_ok (segsB_ok Kr_ok g14) (app_ok (segsB_ok Kr_ok g15) (app_ok (segsB_ok Kr_ok g16) (app_ok (segsB_ok Kr_ok g17) (app_ok (segsB_ok Kr_ok g18) (app_ok (segsB_ok Kr_ok g19) (app_ok (segsB_ok Kr_ok g20) (app_ok (segsB_ok Kr_ok g21) (app_ok (segsB_ok Kr_ok g22) (app_ok (segsB_ok Kr_ok g23) (app_ok (segsB_ok Kr_ok g24) (app_ok (segsB_ok Kr_ok g25) (app_ok (segsB_ok Kr_ok g26) (app_ok (segsB_ok Kr_ok g27) (app_ok (segsB_ok Kr_ok g28) (segsB_ok Kr_ok g29)))))))))))))))))))))))))))))
def L8 : List Seg := sel 8 lall
theorem L8_ok : ∀ s ∈ L8, SegOk Tryz.prog 8 s := sel_ok lall_ok
def L10 : List Seg := sel 10 lall
theorem L10_ok : ∀ s ∈ L10, SegOk Tryz.prog 10 s := sel_ok lall_ok
def L13 : List Seg := sel 13 lall
theorem L13_ok : ∀ s ∈ L13, SegOk Tryz.prog 13 s := sel_ok lall_ok
def L14 : List Seg := sel 14 lall
theorem L14_ok : ∀ s ∈ L14, SegOk Tryz.prog 14 s := sel_ok lall_ok
def L15 : List Seg := sel 15 lall
theorem L15_ok : ∀ s ∈ L15, SegOk Tryz.prog 15 s := sel_ok lall_ok
def L16 : List Seg := sel 16 lall
theorem L16_ok : ∀ s ∈ L16, SegOk Tryz.prog 16 s := sel_ok lall_ok
def L18 : List Seg := sel 18 lall
theorem L18_ok : ∀ s ∈ L18, SegOk Tryz.prog 18 s := sel_ok lall_ok
def L22 : List Seg := sel 22 lall
theorem L22_ok : ∀ s ∈ L22, SegOk Tryz.prog 22 s := sel_ok lall_ok
def L25 : List Seg := sel 25 lall
theorem L25_ok : ∀ s ∈ L25, SegOk Tryz.prog 25 s := sel_ok lall_ok
def K9 : Kn := KL ((22, segC L22) :: (25, segC L25) :: Lr)
theorem K9_ok (base : Nat) (W : Env) : KnOk Tryz.prog base W K9 := KL_ok (.cons (segC_ov L22_ok) (.cons (segC_ov L25_ok) Lr_ok)) base W
def lm9 : List (FuncId × Seg) := [(9, s9)]
theorem gm9 : segsB Tryz.prog K9 lm9 = some () := by kernel_rfl
def L9 : List Seg := sel 9 lm9
theorem L9_ok : ∀ s ∈ L9, SegOk Tryz.prog 9 s := sel_ok (segsB_ok K9_ok gm9)
end
noncomputable section
namespace rollcalltop_awake
theorem at_ : FnAt Tryz.prog 8 Tryz.f8 := ⟨Tryz.func8, by kernel_rfl⟩
theorem body : Tryz.f8.body = some ((Tryz.f8.body).getD .skip) := by kernel_rfl
def f  (S : HS) : Option ((Bool) × HS) := (segH L8 [] S).bind fun p => match p.1 with | .bool a1 => some (a1, p.2) | _ => none
theorem snd {base : Nat} {W0 : Env} {β0 : Bt}  {S : HS} {p : (Bool) × HS} (h : f  S = some p) : HCall Tryz.prog base W0 β0 8 [] S (fun v S1 => v = (.bool p.1) ∧ S1 = p.2) := by
  unfold f at h
  obtain ⟨q, h1, h2⟩ := Option.bind_eq_some_iff.1 h
  split at h2
  · rename_i hq
    cases h2
    exact (segH_ok L8_ok h1).mono fun v S1 g => ⟨g.1.trans hq, g.2⟩
  · cases h2
end rollcalltop_awake
namespace rollcalltop_made
theorem at_ : FnAt Tryz.prog 9 Tryz.f9 := ⟨Tryz.func9, by kernel_rfl⟩
theorem body : Tryz.f9.body = some ((Tryz.f9.body).getD .skip) := by kernel_rfl
def f (x0 : Int) (S : HS) : Option (((Option HA) × Bool) × HS) := (segH L9 [(.int .i64 x0)] S).bind fun p => match p.1 with | .tup [.ptr a1, .bool a2] => some ((a1, a2), p.2) | _ => none
theorem snd {base : Nat} {W0 : Env} {β0 : Bt} {x0 : Int} {S : HS} {p : ((Option HA) × Bool) × HS} (h : f x0 S = some p) : HCall Tryz.prog base W0 β0 9 [(.int .i64 x0)] S (fun v S1 => v = (.tup [(.ptr p.1.1), (.bool p.1.2)]) ∧ S1 = p.2) := by
  unfold f at h
  obtain ⟨q, h1, h2⟩ := Option.bind_eq_some_iff.1 h
  split at h2
  · rename_i hq
    cases h2
    exact (segH_ok L9_ok h1).mono fun v S1 g => ⟨g.1.trans hq, g.2⟩
  · cases h2
end rollcalltop_made
namespace rollcalltop_said
theorem at_ : FnAt Tryz.prog 10 Tryz.f10 := ⟨Tryz.func10, by kernel_rfl⟩
theorem body : Tryz.f10.body = some ((Tryz.f10.body).getD .skip) := by kernel_rfl
def f (x0 : (Option HA)) (x1 : Int) (x2 : (List UInt8)) (x3 : Sl) (S : HS) : Option ((Unit) × HS) := (segH L10 [(.ptr x0), (.int .i64 x1), (.str x2), (Sl.hv x3)] S).bind fun p => match p.1 with | .tup [] => some ((), p.2) | _ => none
theorem snd {base : Nat} {W0 : Env} {β0 : Bt} {x0 : (Option HA)} {x1 : Int} {x2 : (List UInt8)} {x3 : Sl} {S : HS} {p : (Unit) × HS} (h : f x0 x1 x2 x3 S = some p) : HCall Tryz.prog base W0 β0 10 [(.ptr x0), (.int .i64 x1), (.str x2), (Sl.hv x3)] S (fun v S1 => v = (.tup []) ∧ S1 = p.2) := by
  unfold f at h
  obtain ⟨q, h1, h2⟩ := Option.bind_eq_some_iff.1 h
  split at h2
  · rename_i hq
    cases h2
    exact (segH_ok L10_ok h1).mono fun v S1 g => ⟨g.1.trans hq, g.2⟩
  · cases h2
end rollcalltop_said
namespace core_Core_Rooms
theorem at_ : FnAt Tryz.prog 13 Tryz.f13 := ⟨Tryz.func13, by kernel_rfl⟩
theorem body : Tryz.f13.body = some ((Tryz.f13.body).getD .skip) := by kernel_rfl
def f (x0 : (Option HA)) (S : HS) : Option (((Option HA)) × HS) := (segH L13 [(.ptr x0)] S).bind fun p => match p.1 with | .ptr a1 => some (a1, p.2) | _ => none
theorem snd {base : Nat} {W0 : Env} {β0 : Bt} {x0 : (Option HA)} {S : HS} {p : ((Option HA)) × HS} (h : f x0 S = some p) : HCall Tryz.prog base W0 β0 13 [(.ptr x0)] S (fun v S1 => v = (.ptr p.1) ∧ S1 = p.2) := by
  unfold f at h
  obtain ⟨q, h1, h2⟩ := Option.bind_eq_some_iff.1 h
  split at h2
  · rename_i hq
    cases h2
    exact (segH_ok L13_ok h1).mono fun v S1 g => ⟨g.1.trans hq, g.2⟩
  · cases h2
end core_Core_Rooms
namespace rooms_Rooms_Get
theorem at_ : FnAt Tryz.prog 14 Tryz.f14 := ⟨Tryz.func14, by kernel_rfl⟩
theorem body : Tryz.f14.body = some ((Tryz.f14.body).getD .skip) := by kernel_rfl
def f (x0 : (Option HA)) (x1 : (List UInt8)) (S : HS) : Option (((Option HA) × Bool) × HS) := (segH L14 [(.ptr x0), (.str x1)] S).bind fun p => match p.1 with | .tup [.ptr a1, .bool a2] => some ((a1, a2), p.2) | _ => none
theorem snd {base : Nat} {W0 : Env} {β0 : Bt} {x0 : (Option HA)} {x1 : (List UInt8)} {S : HS} {p : ((Option HA) × Bool) × HS} (h : f x0 x1 S = some p) : HCall Tryz.prog base W0 β0 14 [(.ptr x0), (.str x1)] S (fun v S1 => v = (.tup [(.ptr p.1.1), (.bool p.1.2)]) ∧ S1 = p.2) := by
  unfold f at h
  obtain ⟨q, h1, h2⟩ := Option.bind_eq_some_iff.1 h
  split at h2
  · rename_i hq
    cases h2
    exact (segH_ok L14_ok h1).mono fun v S1 g => ⟨g.1.trans hq, g.2⟩
  · cases h2
end rooms_Rooms_Get
namespace room_Room_Member
theorem at_ : FnAt Tryz.prog 15 Tryz.f15 := ⟨Tryz.func15, by kernel_rfl⟩
theorem body : Tryz.f15.body = some ((Tryz.f15.body).getD .skip) := by kernel_rfl
def f (x0 : (Option HA)) (x1 : Int) (S : HS) : Option ((Int × Bool × Bool × Bool) × HS) := (segH L15 [(.ptr x0), (.int .i64 x1)] S).bind fun p => match p.1 with | .tup [.agg [.int .i64 a2, .bool a3, .bool a4], .bool a5] => some ((a2, a3, a4, a5), p.2) | _ => none
theorem snd {base : Nat} {W0 : Env} {β0 : Bt} {x0 : (Option HA)} {x1 : Int} {S : HS} {p : (Int × Bool × Bool × Bool) × HS} (h : f x0 x1 S = some p) : HCall Tryz.prog base W0 β0 15 [(.ptr x0), (.int .i64 x1)] S (fun v S1 => v = (.tup [(.agg [(.int .i64 p.1.1), (.bool p.1.2.1), (.bool p.1.2.2.1)]), (.bool p.1.2.2.2)]) ∧ S1 = p.2) := by
  unfold f at h
  obtain ⟨q, h1, h2⟩ := Option.bind_eq_some_iff.1 h
  split at h2
  · rename_i hq
    cases h2
    exact (segH_ok L15_ok h1).mono fun v S1 g => ⟨g.1.trans hq, g.2⟩
  · cases h2
end room_Room_Member
namespace room_Room_Len
theorem at_ : FnAt Tryz.prog 16 Tryz.f16 := ⟨Tryz.func16, by kernel_rfl⟩
theorem body : Tryz.f16.body = some ((Tryz.f16.body).getD .skip) := by kernel_rfl
def f (x0 : (Option HA)) (S : HS) : Option ((Int) × HS) := (segH L16 [(.ptr x0)] S).bind fun p => match p.1 with | .int .i64 a1 => some (a1, p.2) | _ => none
theorem snd {base : Nat} {W0 : Env} {β0 : Bt} {x0 : (Option HA)} {S : HS} {p : (Int) × HS} (h : f x0 S = some p) : HCall Tryz.prog base W0 β0 16 [(.ptr x0)] S (fun v S1 => v = (.int .i64 p.1) ∧ S1 = p.2) := by
  unfold f at h
  obtain ⟨q, h1, h2⟩ := Option.bind_eq_some_iff.1 h
  split at h2
  · rename_i hq
    cases h2
    exact (segH_ok L16_ok h1).mono fun v S1 g => ⟨g.1.trans hq, g.2⟩
  · cases h2
end room_Room_Len
namespace rollcallref01_Digits
theorem at_ : FnAt Tryz.prog 18 Tryz.f18 := ⟨Tryz.func18, by kernel_rfl⟩
theorem body : Tryz.f18.body = some ((Tryz.f18.body).getD .skip) := by kernel_rfl
def f (x0 : Int) (S : HS) : Option (((List UInt8)) × HS) := (segH L18 [(.int .i64 x0)] S).bind fun p => match p.1 with | .str a1 => some (a1, p.2) | _ => none
theorem snd {base : Nat} {W0 : Env} {β0 : Bt} {x0 : Int} {S : HS} {p : ((List UInt8)) × HS} (h : f x0 S = some p) : HCall Tryz.prog base W0 β0 18 [(.int .i64 x0)] S (fun v S1 => v = (.str p.1) ∧ S1 = p.2) := by
  unfold f at h
  obtain ⟨q, h1, h2⟩ := Option.bind_eq_some_iff.1 h
  split at h2
  · rename_i hq
    cases h2
    exact (segH_ok L18_ok h1).mono fun v S1 g => ⟨g.1.trans hq, g.2⟩
  · cases h2
end rollcallref01_Digits
end
end Go.Proofs.YtfningkbcfhheaaGreatDoor.X
namespace Go.Proofs.YtfningkbcfhheaaGreatDoor.X
open Go.Proofs.YtfningkbcfhheaaGreatDoor.HL
set_option linter.unusedVariables false
set_option linter.unusedSimpArgs false
set_option maxRecDepth 20000
set_option maxHeartbeats 4000000
noncomputable section
theorem fi41_0 : fieldInfo Tryz.prog 41 0 = some (0,39,1) := by kernel_rfl
theorem sc39 : Scalar Tryz.prog 39 := ⟨(.pointer 78),by kernel_rfl,trivial⟩
theorem zi44 : (Tryz.prog.info? 44).map (·.zero) = some (some (.agg #[(.int .i64 0),(.bool false),(.bool false)])) := by kernel_rfl
theorem zr44 : ∀ β,VRels β [(.int .i64 0),(.bool false),(.bool false)] (Value.cells (.agg #[(.int .i64 0),(.bool false),(.bool false)])) := fun β => VRels.cons (.int _ _) (VRels.cons (.bool _) (VRels.cons (.bool _) (VRels.nil β)))
namespace rollcalltop_WholeLimit
theorem at_ : FnAt Tryz.prog 6 Tryz.f6 := ⟨Tryz.func6,by kernel_rfl⟩
noncomputable def d0 := (Tryz.f6.body).getD .skip
noncomputable def r1 := kR (kA d0)
noncomputable def r4 := kR (kA (kA (kB d0)))
noncomputable def r7 := kR (kA (kA (kB (kA (kB d0)))))
noncomputable def r11 := kR (kA (kB (kB d0)))
noncomputable def d12 := kB (kB (kB d0))
noncomputable def r14 := kR (kA (kA d12))
noncomputable def r17 := kR (kA (kA (kB (kA d12))))
noncomputable def r21 := kR (kA (kB d12))
noncomputable def r23 := kR (kA (kB (kB d12)))
noncomputable def d24 := kB (kB (kB d12))
noncomputable def r25 := kR (kA d24)
noncomputable def r28 := kR (kA (kA (kB d24)))
noncomputable def d31 := kA (kA (kB (kA (kB d24))))
noncomputable def r33 := kR (kA (kA d31))
noncomputable def r39 := kR (kA (kA (kB d31)))
noncomputable def r40 := kR (kB (kB d31))
noncomputable def r42 := kR (kA (kB (kB d24)))
noncomputable def d43 := kB (kB (kB d24))
noncomputable def r45 := kR (kA (kA d43))
noncomputable def r48 := kR (kA (kA (kB (kA d43))))
noncomputable def r53 := kR (kA (kA (kB d43)))
noncomputable def r56 := kR (kA (kA (kB (kA (kB d43)))))
noncomputable def r60 := kR (kA (kB (kB d43)))
noncomputable def r62 := kR (kA (kB (kB (kB d43))))
noncomputable def r64 := kR (kA (kB (kB (kB (kB d43)))))
noncomputable def r66 := kR (kA (kB (kB (kB (kB (kB d43))))))
noncomputable def c67 : Code := .ret
noncomputable def c59 : Code := .seq (.region 18 r60 false) (.seq (.region 19 r62 false) (.seq (.region 20 r64 false) (.seq (.region 21 r66 false) c67)))
noncomputable def c54 : Code := .cond (.tmp 62) (.seq (.region 17 r56 false) .ret) .skip
noncomputable def c51 : Code := .seq (.seq (.region 16 r53 false) c54) c59
noncomputable def c46 : Code := .cond (.tmp 56) (.seq (.region 15 r48 false) .ret) .skip
noncomputable def c41 : Code := .seq (.region 13 r42 false) (.seq (.seq (.region 14 r45 false) c46) c51)
noncomputable def c31 : Code := .seq (.seq (.region 10 r33 false) (.cond (.tmp 32) .skip (.exit 0))) (.seq (.block 1 (.region 12 r39 false)) (.region 11 r40 false))
noncomputable def c0 : Code := .seq (.region 0 r1 false) (.seq (.seq (.region 1 r4 false) (.cond (.tmp 12) (.seq (.region 2 r7 false) .ret) .skip)) (.seq (.region 3 r11 false) (.seq (.seq (.region 4 r14 false) (.cond (.tmp 18) (.seq (.region 5 r17 false) .ret) .skip)) (.seq (.region 6 r21 false) (.seq (.region 7 r23 false) (.seq (.region 8 r25 false) (.seq (.seq (.region 9 r28 false) (.block 0 (.loop c31))) c41)))))))
theorem body : Tryz.f6.body = some c0 := by kernel_rfl
section
variable {base : Nat} {W0 : Env} {β0 : Bt}
def J3 (k : Nat) (y80 : Bool) (S : HS) : Option ((Bool) × HS) :=
 some (y80,S)
theorem J3_snd {k : Nat}  {y80 : Bool} {S : HS} {p : (Bool) × HS} {Ga Gb Gc Gd Ge Gf Gg Gh Gi Gj Gk Gl Gm Gn Go Gp Gq Gr Gs Gt Gu Gv Gw Gx Gy Gz Ka Kb Kc Kd Ke Kf Kg Kh Ki Kj Kk Kl Km Kn Ko Kp Kq Kr Ks Kt Ku Kv Kw Kx Ky Kz Ma Mb Mc Md Me Mf Mg Mh Mi Mj Mk Ml Mm Mn Mo Mp Mq Mr Ms Mt Mu Mv Mw Mx My Mz Na Nb : HV} (h : J3 k y80 S = some p) : HRun Tryz.prog base W0 β0 6 none [.inRegion r66 [7],.code c67] ⟨[Ga,Gb,Gc,Gd,Ge,Gf,Gg,Gh,Gi,Gj,Gk,Gl,Gm,Gn,Go,Gp,Gq,Gr,Gs,Gt,Gu,Gv,Gw,Gx,Gy,Gz,Ka,Kb,Kc,Kd,Ke,Kf,Kg,Kh,Ki,Kj,Kk,Kl,Km,Kn,Ko,Kp,Kq,Kr,Ks,Kt,Ku,Kv,Kw,Kx,Ky,Kz,Ma,Mb,Mc,Md,Me,Mf,Mg,Mh,Mi,Mj,Mk,Ml,Mm,Mn,Mo,Mp,Mq,Mr,Ms,Mt,Mu,Mv,Mw,Mx,My,Mz,Na,Nb,(.bool y80)],[]⟩ S (fun v S1 => v = (.bool p.1) ∧ S1 = p.2) := by
 unfold J3 at h
 refine qS 2 rfl (oA · rfl) (rE ?_)
 try dsimp only [w0,w1,w2,w3]
 cases h
 exact q_ret rfl at_.at_ rfl (res1 rfl rfl) ⟨rfl,rfl⟩
def J2 (k : Nat) (y3 : (Option HA)) (y5 : Int) (y7 : (Option HA)) (y62 : Bool) (S : HS) : Option ((Bool) × HS) :=
 (if y62 = true then
 some (true,S) else
 (letv (HS.lit S [[(.str ([35,114] : List UInt8))]] 1) fun p21 =>
 (Option.bind (rollcalltop_said.f y3 2 ([80,65,82,84] : List UInt8) (p21.1) (p21.2)) fun p22 =>
 (letv (HS.lit p22.2 [[(.str ([35,114] : List UInt8))]] 1) fun p23 =>
 (Option.bind (rollcalltop_said.f y3 6 ([74,79,73,78] : List UInt8) (p23.1) (p23.2)) fun p24 =>
 (Option.bind (room_Room_Member.f y7 6 p24.2) fun p25 =>
 (letv (HS.new p25.2 (.cells 3 [[(.int .i64 0),(.bool false),(.bool false)]] true)) fun p26 =>
 (Option.bind (HS.sets p26 (HA.cell0 p25.2.next) [(.int .i64 p25.1.1),(.bool p25.1.2.1),(.bool p25.1.2.2.1)]) fun p27 =>
 (if p25.1.2.2.2 = true then
 (Option.bind (room_Room_Len.f y7 p27) fun p29 =>
 J3 k (decide (p29.1 = y5)) p29.2) else
 J3 k false p27)))))))))
theorem J2_snd {k : Nat}  {y3 : (Option HA)} {y5 : Int} {y7 : (Option HA)} {y62 : Bool} {S : HS} {p : (Bool) × HS} {Ga Gb Gc Ge Gg Gi Gj Gk Gl Gm Gn Go Gp Gq Gr Gs Gt Gu Gv Gw Gx Gy Gz Ka Kb Kc Kd Ke Kf Kg Kh Ki Kj Kk Kl Km Kn Ko Kp Kq Kr Ks Kt Ku Kv Kw Kx Ky Kz Ma Mb Mc Md Me Mf Mg Mh Mi Mj Ml Mm Mn Mo Mp Mq Mr Ms Mt Mu Mv Mw Mx My Mz Na Nb Nc : HV} (h : J2 k y3 y5 y7 y62 S = some p) : HRun Tryz.prog base W0 β0 6 none [.code c54,.code c59] ⟨[Ga,Gb,Gc,(.ptr y3),Ge,(.int .i64 y5),Gg,(.ptr y7),Gi,Gj,Gk,Gl,Gm,Gn,Go,Gp,Gq,Gr,Gs,Gt,Gu,Gv,Gw,Gx,Gy,Gz,Ka,Kb,Kc,Kd,Ke,Kf,Kg,Kh,Ki,Kj,Kk,Kl,Km,Kn,Ko,Kp,Kq,Kr,Ks,Kt,Ku,Kv,Kw,Kx,Ky,Kz,Ma,Mb,Mc,Md,Me,Mf,Mg,Mh,Mi,Mj,(.bool y62),Ml,Mm,Mn,Mo,Mp,Mq,Mr,Ms,Mt,Mu,Mv,Mw,Mx,My,Mz,Na,Nb,Nc],[]⟩ S (fun v S1 => v = (.bool p.1) ∧ S1 = p.2) := by
 unfold J2 at h
 rcases ifc h with ⟨hc20,h⟩ | ⟨hc20,h⟩
 ·refine q_cond_t rfl (.tmp rfl) hc20 (qQ rfl (qR rfl rfl (qS 2 rfl (ok_assign · (.bool _)) (rE ?_))))
  try dsimp only [w0,w1,w2,w3]
  cases h
  exact q_ret rfl at_.at_ rfl (res1 rfl rfl) ⟨rfl,rfl⟩
 ·obtain ⟨p21,hp21,h⟩ := leto h
  obtain ⟨p22,hp22,h⟩ := bindo h
  refine q_cond_f rfl (.tmp rfl) (bfalse hc20) (q_skipc rfl (qQ rfl (qR rfl rfl (qS 63 rfl (oM · rfl) (qS 64 rfl (ok_buildSlice_s (xs := [(.const (.string ⟨#[35,114]⟩))]) el30 · rfl rfl (by decide) (.cons (.str _) Evs.nil) rfl rfl hp21) (q_call (dst := some 65) rfl (.func _) (.cons (.tmp rfl) (.cons (.int _ _) (.cons (.str _) (.cons (.tmp rfl) Evs.nil)))) (HInv.static rollcalltop_said.at_ rollcalltop_said.body (rollcalltop_said.snd  hp22)) ?_))))))
  rintro _ _ ⟨rfl,rfl⟩
  refine rE ?_
  try dsimp only [w0,w1,w2,w3]
  obtain ⟨p23,hp23,h⟩ := leto h
  obtain ⟨p24,hp24,h⟩ := bindo h
  refine qQ rfl (qR rfl rfl (qS 66 rfl (oM · rfl) (qS 67 rfl (ok_buildSlice_s (xs := [(.const (.string ⟨#[35,114]⟩))]) el30 · rfl rfl (by decide) (.cons (.str _) Evs.nil) rfl rfl hp23) (q_call (dst := some 68) rfl (.func _) (.cons (.tmp rfl) (.cons (.int _ _) (.cons (.str _) (.cons (.tmp rfl) Evs.nil)))) (HInv.static rollcalltop_said.at_ rollcalltop_said.body (rollcalltop_said.snd  hp24)) ?_))))
  rintro _ _ ⟨rfl,rfl⟩
  refine rE ?_
  try dsimp only [w0,w1,w2,w3]
  obtain ⟨p25,hp25,h⟩ := bindo h
  refine qQ rfl (qR rfl rfl (qS 70 rfl (oM · rfl) (q_call (dst := some 71) rfl (.func _) (.cons (.tmp rfl) (.cons (.int _ _) Evs.nil)) (HInv.static room_Room_Member.at_ room_Room_Member.body (room_Room_Member.snd  hp25)) ?_)))
  rintro _ _ ⟨rfl,rfl⟩
  refine qS 69 rfl (oM · rfl) (qS 72 rfl (ok_extract · (.tmp rfl) rfl) ?_)
  try dsimp only [w0,w1,w2,w3]
  obtain ⟨p26,hp26,h⟩ := leto h
  obtain ⟨p27,hp27,h⟩ := bindo h
  refine qS 73 rfl (ok_extract · (.tmp rfl) rfl) (qS 9 rfl (ok_alloc_e · zi44 zr44 (by decide) rfl hp26) (qN rfl (ok_store_s (v := (.agg [(.int .i64 p25.1.1),(.bool p25.1.2.1),(.bool p25.1.2.2.1)])) · sz44 (.tmp rfl) rfl (.tmp rfl) rfl hp27) (qS 10 rfl (oA · rfl) (rE ?_))))
  try dsimp only [w0,w1,w2,w3]
  refine qQ rfl (qR rfl rfl (qS 74 rfl (oM · rfl) (qS 75 rfl (oM · rfl) ?_)))
  rcases ifc h with ⟨hc28,h⟩ | ⟨hc28,h⟩
  ·obtain ⟨p29,hp29,h⟩ := bindo h
   refine qG 75 76 rfl hc28 (oM · rfl) (q_call_g (t := 75) (dst := some 77) rfl rfl rfl hc28 (.func _) (.cons (.tmp rfl) Evs.nil) (HInv.static room_Room_Len.at_ room_Room_Len.body (room_Room_Len.snd  hp29)) ?_)
   rintro _ _ ⟨rfl,rfl⟩
   try dsimp only [w0,w1,w2,w3]
   refine qG 75 78 rfl hc28 (oM · rfl) (qG 75 79 rfl hc28 (oB · rfl rfl rfl) (qS 80 rfl (ok_pick_tt · (.tmp rfl) hc28 (.tmp rfl)) ?_))
   try dsimp only [w0,w1,w2,w3]
   exact J3_snd  h
  ·refine q_skip (dst := some 76) (t := 75) rfl rfl rfl (bfalse hc28) (q_skip (dst := some 77) (t := 75) rfl rfl rfl (bfalse hc28) ?_)
   try dsimp only [w0,w1,w2,w3]
   refine q_skip (dst := some 78) (t := 75) rfl rfl rfl (bfalse hc28) (q_skip (dst := some 79) (t := 75) rfl rfl rfl (bfalse hc28) (qS 80 rfl (ok_pick_ff · (.tmp rfl) (bfalse hc28) (.bool _)) ?_))
   try dsimp only [w0,w1,w2,w3]
   exact J3_snd  h
def J1 (k : Nat) (y3 : (Option HA)) (y5 : Int) (y7 : (Option HA)) (y56 : Bool) (S : HS) : Option ((Bool) × HS) :=
 (if y56 = true then
 some (false,S) else
 (if y5 = 1 then
 J2 k y3 y5 y7 true S else
 J2 k y3 y5 y7 (decide (y5 > 5)) S))
theorem J1_snd {k : Nat}  {y3 : (Option HA)} {y5 : Int} {y7 : (Option HA)} {y56 : Bool} {S : HS} {p : (Bool) × HS} {Ga Gb Gc Ge Gg Gi Gj Gk Gl Gm Gn Go Gp Gq Gr Gs Gt Gu Gv Gw Gx Gy Gz Ka Kb Kc Kd Ke Kf Kg Kh Ki Kj Kk Kl Km Kn Ko Kp Kq Kr Ks Kt Ku Kv Kw Kx Ky Kz Ma Mb Mc Md Mf Mg Mh Mi Mj Mk Ml Mm Mn Mo Mp Mq Mr Ms Mt Mu Mv Mw Mx My Mz Na Nb Nc : HV} (h : J1 k y3 y5 y7 y56 S = some p) : HRun Tryz.prog base W0 β0 6 none [.code c46,.code c51] ⟨[Ga,Gb,Gc,(.ptr y3),Ge,(.int .i64 y5),Gg,(.ptr y7),Gi,Gj,Gk,Gl,Gm,Gn,Go,Gp,Gq,Gr,Gs,Gt,Gu,Gv,Gw,Gx,Gy,Gz,Ka,Kb,Kc,Kd,Ke,Kf,Kg,Kh,Ki,Kj,Kk,Kl,Km,Kn,Ko,Kp,Kq,Kr,Ks,Kt,Ku,Kv,Kw,Kx,Ky,Kz,Ma,Mb,Mc,Md,(.bool y56),Mf,Mg,Mh,Mi,Mj,Mk,Ml,Mm,Mn,Mo,Mp,Mq,Mr,Ms,Mt,Mu,Mv,Mw,Mx,My,Mz,Na,Nb,Nc],[]⟩ S (fun v S1 => v = (.bool p.1) ∧ S1 = p.2) := by
 unfold J1 at h
 rcases ifc h with ⟨hc18,h⟩ | ⟨hc18,h⟩
 ·refine q_cond_t rfl (.tmp rfl) hc18 (qQ rfl (qR rfl rfl (qS 2 rfl (ok_assign · (.bool _)) (rE ?_))))
  try dsimp only [w0,w1,w2,w3]
  cases h
  exact q_ret rfl at_.at_ rfl (res1 rfl rfl) ⟨rfl,rfl⟩
 ·refine q_cond_f rfl (.tmp rfl) (bfalse hc18) (q_skipc rfl (qQ rfl (qQ rfl (qR rfl rfl (qS 57 rfl (oM · rfl) (qS 58 rfl (oC · rfl rfl) (qS 59 rfl (oM · rfl) ?_)))))))
  rcases ifc h with ⟨hc19,h⟩ | ⟨hc19,h⟩
  ·refine q_skip (dst := some 60) (t := 59) rfl rfl rfl (decide_eq_true hc19) ?_
   try dsimp only [w0,w1,w2,w3]
   refine q_skip (dst := some 61) (t := 59) rfl rfl rfl (decide_eq_true hc19) (qS 62 rfl (ok_pick_tt · (.tmp rfl) (decide_eq_true hc19) (.bool _)) (rE ?_))
   try dsimp only [w0,w1,w2,w3]
   try dsimp only [w0,w1,w2,w3]
   exact J2_snd  h
  ·refine qG 59 60 rfl (decide_eq_false hc19) (oM · rfl) ?_
   try dsimp only [w0,w1,w2,w3]
   refine qG 59 61 rfl (decide_eq_false hc19) (oC · rfl rfl) (qS 62 rfl (ok_pick_ff · (.tmp rfl) (decide_eq_false hc19) (.tmp rfl)) (rE ?_))
   try dsimp only [w0,w1,w2,w3]
   try dsimp only [w0,w1,w2,w3]
   exact J2_snd  h
def L0 (k : Nat) : Nat → (Option HA) → Int → Int → HS → Option ((Bool) × HS)
 | 0,_,_,_,_ => none
 | n + 1,y3,y5,y6,S =>
  (if y6 ≤ 6 then
  (letv (HS.lit S [[(.str ([35,114] : List UInt8))]] 1) fun p11 =>
  (Option.bind (rollcalltop_said.f y3 y6 ([74,79,73,78] : List UInt8) (p11.1) (p11.2)) fun p12 =>
  (L0 k n) y3 y5 (w64 (y6 + 1)) p12.2)) else
  (Option.bind (y3) fun p13 =>
  (Option.bind (HS.ldP S (HA.fld p13 0)) fun p14 =>
  (Option.bind (core_Core_Rooms.f p14 S) fun p15 =>
  (Option.bind (rooms_Rooms_Get.f p15.1 ([35,114] : List UInt8) p15.2) fun p16 =>
  (if (!p16.1.2) = true then
  J1 k y3 y5 p16.1.1 true p16.2 else
  (Option.bind (room_Room_Len.f p16.1.1 p16.2) fun p30 =>
  J1 k y3 y5 p16.1.1 (!decide (p30.1 = (mn y5 6))) p30.2)))))))
theorem L0_snd {k : Nat}  : ∀ {n : Nat} ⦃y3 : (Option HA)⦄ ⦃y5 : Int⦄ ⦃y6 : Int⦄ ⦃S : HS⦄ ⦃p : (Bool) × HS⦄ ⦃Ga Gb Gc Ge Gh Gi Gj Gk Gl Gm Gn Go Gp Gq Gr Gs Gt Gu Gv Gw Gx Gy Gz Ka Kb Kc Kd Ke Kf Kg Kh Ki Kj Kk Kl Km Kn Ko Kp Kq Kr Ks Kt Ku Kv Kw Kx Ky Kz Ma Mb Mc Md Me Mf Mg Mh Mi Mj Mk Ml Mm Mn Mo Mp Mq Mr Ms Mt Mu Mv Mw Mx My Mz Na Nb Nc : HV⦄,L0 k n y3 y5 y6 S = some p → HRun Tryz.prog base W0 β0 6 none [.inLoop c31,.inBlock 0,.code c41] ⟨[Ga,Gb,Gc,(.ptr y3),Ge,(.int .i64 y5),(.int .i64 y6),Gh,Gi,Gj,Gk,Gl,Gm,Gn,Go,Gp,Gq,Gr,Gs,Gt,Gu,Gv,Gw,Gx,Gy,Gz,Ka,Kb,Kc,Kd,Ke,Kf,Kg,Kh,Ki,Kj,Kk,Kl,Km,Kn,Ko,Kp,Kq,Kr,Ks,Kt,Ku,Kv,Kw,Kx,Ky,Kz,Ma,Mb,Mc,Md,Me,Mf,Mg,Mh,Mi,Mj,Mk,Ml,Mm,Mn,Mo,Mp,Mq,Mr,Ms,Mt,Mu,Mv,Mw,Mx,My,Mz,Na,Nb,Nc],[]⟩ S (fun v S1 => v = (.bool p.1) ∧ S1 = p.2) := by
 intro n
 induction n with
 | zero => intro _ _ _ _ _ _ _ _ _ _ _ _ _ _ _ _ _ _ _ _ _ _ _ _ _ _ _ _ _ _ _ _ _ _ _ _ _ _ _ _ _ _ _ _ _ _ _ _ _ _ _ _ _ _ _ _ _ _ _ _ _ _ _ _ _ _ _ _ _ _ _ _ _ _ _ _ _ _ _ _ _ _ _ h; cases h
 | succ n ih =>
  intro y3 y5 y6 S p Ga Gb Gc Ge Gh Gi Gj Gk Gl Gm Gn Go Gp Gq Gr Gs Gt Gu Gv Gw Gx Gy Gz Ka Kb Kc Kd Ke Kf Kg Kh Ki Kj Kk Kl Km Kn Ko Kp Kq Kr Ks Kt Ku Kv Kw Kx Ky Kz Ma Mb Mc Md Me Mf Mg Mh Mi Mj Mk Ml Mm Mn Mo Mp Mq Mr Ms Mt Mu Mv Mw Mx My Mz Na Nb Nc h
  simp only [L0] at h
  refine hr_inLoop (qQ rfl (qQ rfl (qR rfl rfl (qS 31 rfl (oM · rfl) (qS 32 rfl (oC · rfl rfl) (rE ?_))))))
  try dsimp only [w0,w1,w2,w3]
  rcases ifc h with ⟨hc10,h⟩ | ⟨hc10,h⟩
  ·obtain ⟨p11,hp11,h⟩ := leto h
   obtain ⟨p12,hp12,h⟩ := bindo h
   refine q_cond_t rfl (.tmp rfl) (decide_eq_true hc10) (q_skipc rfl (qQ rfl (q_block rfl (qR rfl rfl (qS 35 rfl (oM · rfl) (qS 36 rfl (oM · rfl) (qS 37 rfl (ok_buildSlice_s (xs := [(.const (.string ⟨#[35,114]⟩))]) el30 · rfl rfl (by decide) (.cons (.str _) Evs.nil) rfl rfl hp11) (q_call (dst := some 38) rfl (.func _) (.cons (.tmp rfl) (.cons (.tmp rfl) (.cons (.str _) (.cons (.tmp rfl) Evs.nil)))) (HInv.static rollcalltop_said.at_ rollcalltop_said.body (rollcalltop_said.snd  hp12)) ?_))))))))
   rintro _ _ ⟨rfl,rfl⟩
   refine rE ?_
   try dsimp only [w0,w1,w2,w3]
   refine hr_inBlock (qR rfl rfl (qS 33 rfl (oM · rfl) (qS 34 rfl (oC · rfl rfl) (qS 6 rfl (oA · rfl) (rE ?_)))))
   try dsimp only [w0,w1,w2,w3]
   try dsimp only [w0,w1,w2,w3]
   exact ih h
  ·obtain ⟨p13,hp13,h⟩ := bindo h
   obtain ⟨p14,hp14,h⟩ := bindo h
   refine q_cond_f rfl (.tmp rfl) (decide_eq_false hc10) (q_exit rfl rfl (qQ rfl (qR rfl rfl (qS 40 rfl (oM · rfl) (qS 41 rfl (oN · rfl hp13) (qS 42 rfl (oF · fi41_0 (by decide) rfl rfl) (qS 43 rfl (oL · sc39 rfl rfl (ldP_out hp14)) ?_)))))))
   try dsimp only [w0,w1,w2,w3]
   obtain ⟨p15,hp15,h⟩ := bindo h
   refine q_call (dst := some 44) rfl (.func _) (.cons (.tmp rfl) Evs.nil) (HInv.static core_Core_Rooms.at_ core_Core_Rooms.body (core_Core_Rooms.snd  hp15)) ?_
   rintro _ _ ⟨rfl,rfl⟩
   obtain ⟨p16,hp16,h⟩ := bindo h
   refine q_call (dst := some 45) rfl (.func _) (.cons (.tmp rfl) (.cons (.str _) Evs.nil)) (HInv.static rooms_Rooms_Get.at_ rooms_Rooms_Get.body (rooms_Rooms_Get.snd  hp16)) ?_
   rintro _ _ ⟨rfl,rfl⟩
   refine qS 39 rfl (oM · rfl) (qS 46 rfl (ok_extract · (.tmp rfl) rfl) ?_)
   try dsimp only [w0,w1,w2,w3]
   refine qS 47 rfl (ok_extract · (.tmp rfl) rfl) (qS 7 rfl (oA · rfl) (qS 8 rfl (oA · rfl) (rE ?_)))
   try dsimp only [w0,w1,w2,w3]
   refine qQ rfl (qQ rfl (qR rfl rfl (qS 48 rfl (oM · rfl) (qS 49 rfl (ok_not · (.tmp rfl)) (qS 50 rfl (oM · rfl) ?_)))))
   rcases ifc h with ⟨hc17,h⟩ | ⟨hc17,h⟩
   ·refine q_skip (dst := some 51) (t := 50) rfl rfl rfl hc17 ?_
    try dsimp only [w0,w1,w2,w3]
    refine q_skip (dst := some 52) (t := 50) rfl rfl rfl hc17 (q_skip (dst := some 53) (t := 50) rfl rfl rfl hc17 (q_skip (dst := some 54) (t := 50) rfl rfl rfl hc17 (q_skip (dst := some 55) (t := 50) rfl rfl rfl hc17 ?_)))
    try dsimp only [w0,w1,w2,w3]
    refine qS 56 rfl (ok_pick_tt · (.tmp rfl) hc17 (.bool _)) (rE ?_)
    try dsimp only [w0,w1,w2,w3]
    try dsimp only [w0,w1,w2,w3]
    exact J1_snd  h
   ·refine qG 50 51 rfl (bfalse hc17) (oM · rfl) ?_
    try dsimp only [w0,w1,w2,w3]
    obtain ⟨p30,hp30,h⟩ := bindo h
    refine q_call_g (t := 50) (dst := some 52) rfl rfl rfl (bfalse hc17) (.func _) (.cons (.tmp rfl) Evs.nil) (HInv.static room_Room_Len.at_ room_Room_Len.body (room_Room_Len.snd  hp30)) ?_
    rintro _ _ ⟨rfl,rfl⟩
    refine qG 50 53 rfl (bfalse hc17) (oM · rfl) (qG 50 54 rfl (bfalse hc17) (ok_min · (.tmp rfl) (.int _ _)) (qG 50 55 rfl (bfalse hc17) (oB · rfl rfl rfl) ?_))
    try dsimp only [w0,w1,w2,w3]
    refine qS 56 rfl (ok_pick_ff · (.tmp rfl) (bfalse hc17) (.tmp rfl)) (rE ?_)
    try dsimp only [w0,w1,w2,w3]
    try dsimp only [w0,w1,w2,w3]
    exact J1_snd  h
def f (k : Nat) (x0 : Int) (S : HS) : Option ((Bool) × HS) :=
 (Option.bind (rollcalltop_awake.f S) fun p1 =>
 (if (!p1.1) = true then
 some (false,p1.2) else
 (Option.bind (rollcalltop_made.f 6 p1.2) fun p3 =>
 (if (!p3.1.2) = true then
 some (false,p3.2) else
 (letv (HS.lit p3.2 [[(.str ([35,114] : List UInt8))]] 1) fun p5 =>
 (Option.bind (rollcalltop_said.f p3.1.1 1 ([74,79,73,78] : List UInt8) (p5.1) (p5.2)) fun p6 =>
 (Option.bind (rollcallref01_Digits.f (w64 (1 + (Int.tmod (w64 x0) 9))) p6.2) fun p7 =>
 (letv (HS.lit p7.2 [[(.str ([35,114] : List UInt8))],[(.str ([43,108] : List UInt8))],[(.str p7.1)]] 1) fun p8 =>
 (Option.bind (rollcalltop_said.f p3.1.1 1 ([77,79,68,69] : List UInt8) (p8.1) (p8.2)) fun p9 =>
 L0 k k p3.1.1 (w64 (1 + (Int.tmod (w64 x0) 9))) 2 p9.2)))))))))
theorem snd {k : Nat} {x0 : Int} {S : HS}  {p : (Bool) × HS} (h : f k x0 S = some p) : HCall Tryz.prog base W0 β0 6 [(.int .u8 x0)] S (fun v S1 => v = (.bool p.1) ∧ S1 = p.2) := by
 unfold f at h
 refine HCall.of_run at_.at_ body ?_
 show HRun Tryz.prog base W0 β0 6 none [.code c0] ⟨[(.int .u8 x0),τ,τ,τ,τ,τ,τ,τ,τ,τ,τ,τ,τ,τ,τ,τ,τ,τ,τ,τ,τ,τ,τ,τ,τ,τ,τ,τ,τ,τ,τ,τ,τ,τ,τ,τ,τ,τ,τ,τ,τ,τ,τ,τ,τ,τ,τ,τ,τ,τ,τ,τ,τ,τ,τ,τ,τ,τ,τ,τ,τ,τ,τ,τ,τ,τ,τ,τ,τ,τ,τ,τ,τ,τ,τ,τ,τ,τ,τ,τ,τ],[]⟩ S _
 refine qQ rfl (qR rfl rfl (qS 2 rfl (ok_assign · (.bool _)) (rE ?_)))
 try dsimp only [w0,w1,w2,w3]
 obtain ⟨p1,hp1,h⟩ := bindo h
 refine qQ rfl (qQ rfl (qR rfl rfl (q_call (dst := some 11) rfl (.func _) Evs.nil (HInv.static rollcalltop_awake.at_ rollcalltop_awake.body (rollcalltop_awake.snd  hp1)) ?_)))
 rintro _ _ ⟨rfl,rfl⟩
 refine qS 12 rfl (ok_not · (.tmp rfl)) (rE ?_)
 try dsimp only [w0,w1,w2,w3]
 rcases ifc h with ⟨hc2,h⟩ | ⟨hc2,h⟩
 ·refine q_cond_t rfl (.tmp rfl) hc2 (qQ rfl (qR rfl rfl (qS 2 rfl (ok_assign · (.bool _)) (rE ?_))))
  try dsimp only [w0,w1,w2,w3]
  cases h
  exact q_ret rfl at_.at_ rfl (res1 rfl rfl) ⟨rfl,rfl⟩
 ·obtain ⟨p3,hp3,h⟩ := bindo h
  refine q_cond_f rfl (.tmp rfl) (bfalse hc2) (q_skipc rfl (qQ rfl (qR rfl rfl (q_call (dst := some 14) rfl (.func _) (.cons (.int _ _) Evs.nil) (HInv.static rollcalltop_made.at_ rollcalltop_made.body (rollcalltop_made.snd  hp3)) ?_))))
  rintro _ _ ⟨rfl,rfl⟩
  refine qS 13 rfl (oM · rfl) (qS 15 rfl (ok_extract · (.tmp rfl) rfl) (qS 16 rfl (ok_extract · (.tmp rfl) rfl) ?_))
  try dsimp only [w0,w1,w2,w3]
  refine qS 3 rfl (oA · rfl) (qS 4 rfl (oA · rfl) (rE ?_))
  try dsimp only [w0,w1,w2,w3]
  refine qQ rfl (qQ rfl (qR rfl rfl (qS 17 rfl (oM · rfl) (qS 18 rfl (ok_not · (.tmp rfl)) (rE ?_)))))
  try dsimp only [w0,w1,w2,w3]
  rcases ifc h with ⟨hc4,h⟩ | ⟨hc4,h⟩
  ·refine q_cond_t rfl (.tmp rfl) hc4 (qQ rfl (qR rfl rfl (qS 2 rfl (ok_assign · (.bool _)) (rE ?_))))
   try dsimp only [w0,w1,w2,w3]
   cases h
   exact q_ret rfl at_.at_ rfl (res1 rfl rfl) ⟨rfl,rfl⟩
  ·refine q_cond_f rfl (.tmp rfl) (bfalse hc4) (q_skipc rfl (qQ rfl (qR rfl rfl (qS 19 rfl (oM · rfl) (qS 20 rfl (ok_conv_int · tu5 tu3 (.tmp rfl)) (qS 21 rfl (ok_rem · (.tmp rfl) (.int _ _) (by decide)) (qS 22 rfl (ok_ibin · (.int _ _) (.tmp rfl) rfl) ?_)))))))
   try dsimp only [w0,w1,w2,w3]
   refine qS 5 rfl (oA · rfl) (rE ?_)
   try dsimp only [w0,w1,w2,w3]
   obtain ⟨p5,hp5,h⟩ := leto h
   obtain ⟨p6,hp6,h⟩ := bindo h
   refine qQ rfl (qR rfl rfl (qS 23 rfl (oM · rfl) (qS 24 rfl (ok_buildSlice_s (xs := [(.const (.string ⟨#[35,114]⟩))]) el30 · rfl rfl (by decide) (.cons (.str _) Evs.nil) rfl rfl hp5) (q_call (dst := some 25) rfl (.func _) (.cons (.tmp rfl) (.cons (.int _ _) (.cons (.str _) (.cons (.tmp rfl) Evs.nil)))) (HInv.static rollcalltop_said.at_ rollcalltop_said.body (rollcalltop_said.snd  hp6)) ?_))))
   rintro _ _ ⟨rfl,rfl⟩
   refine rE ?_
   try dsimp only [w0,w1,w2,w3]
   obtain ⟨p7,hp7,h⟩ := bindo h
   refine qQ rfl (qR rfl rfl (qS 26 rfl (oM · rfl) (qS 27 rfl (oM · rfl) (q_call (dst := some 28) rfl (.func _) (.cons (.tmp rfl) Evs.nil) (HInv.static rollcallref01_Digits.at_ rollcallref01_Digits.body (rollcallref01_Digits.snd  hp7)) ?_))))
   rintro _ _ ⟨rfl,rfl⟩
   obtain ⟨p8,hp8,h⟩ := leto h
   refine qS 29 rfl (ok_buildSlice_s (xs := [(.const (.string ⟨#[35,114]⟩)),(.const (.string ⟨#[43,108]⟩)),(.tmp 28)]) el30 · rfl rfl (by decide) (.cons (.str _) (.cons (.str _) (.cons (.tmp rfl) Evs.nil))) rfl rfl hp8) ?_
   try dsimp only [w0,w1,w2,w3]
   obtain ⟨p9,hp9,h⟩ := bindo h
   refine q_call (dst := some 30) rfl (.func _) (.cons (.tmp rfl) (.cons (.int _ _) (.cons (.str _) (.cons (.tmp rfl) Evs.nil)))) (HInv.static rollcalltop_said.at_ rollcalltop_said.body (rollcalltop_said.snd  hp9)) ?_
   rintro _ _ ⟨rfl,rfl⟩
   refine rE ?_
   try dsimp only [w0,w1,w2,w3]
   refine qQ rfl (qQ rfl (qR rfl rfl (qS 6 rfl (ok_assign · (.int _ _)) (rE ?_))))
   try dsimp only [w0,w1,w2,w3]
   refine q_block rfl (q_loop rfl ?_)
   try dsimp only [w0,w1,w2,w3]
   exact L0_snd  h
end
end rollcalltop_WholeLimit
end
end Go.Proofs.YtfningkbcfhheaaGreatDoor.X
namespace Go.Proofs.YtfningkbcfhheaaGreatDoor.X
open Go.Proofs.YtfningkbcfhheaaGreatDoor.HL
set_option linter.unusedVariables false
set_option maxRecDepth 100000
theorem of_fst {α : Type} {o : Option (Bool × α)} (h : o.map (·.1) = some true) : ∃ s, o = some (true, s) := by
  cases o with
  | none => cases h
  | some p => obtain ⟨b, s⟩ := p; simp only [Option.map_some, Option.some.injEq] at h; subst h; exact ⟨s, rfl⟩
theorem u8_range {n : Int} (w : (Lit.int .u8 n).wf = true) : 0 ≤ n ∧ n < 256 := by
  have hn : 0 ≤ n ∧ n ≤ 255 := by simpa [Lit.wf, IntKind.min, IntKind.max, IntKind.signed, IntKind.bits] using w
  omega
theorem limit_mod (k : Nat) {y z : Int} (h : Int.tmod (w64 y) 9 = Int.tmod (w64 z) 9) (S : HS) : rollcalltop_WholeLimit.f k y S = rollcalltop_WholeLimit.f k z S := by
  unfold rollcalltop_WholeLimit.f
  rw [h]
theorem limit9 (a : Fin 9) : ∃ S', rollcalltop_WholeLimit.f 1000 (a.val : Int) S0 = some (true, S') := by
  match a with
  | 0 => exact of_fst (by kernel_rfl)
  | 1 => exact of_fst (by kernel_rfl)
  | 2 => exact of_fst (by kernel_rfl)
  | 3 => exact of_fst (by kernel_rfl)
  | 4 => exact of_fst (by kernel_rfl)
  | 5 => exact of_fst (by kernel_rfl)
  | 6 => exact of_fst (by kernel_rfl)
  | 7 => exact of_fst (by kernel_rfl)
  | 8 => exact of_fst (by kernel_rfl)
theorem limit_spec (x : Int) (hx : 0 ≤ x ∧ x < 256) : ∃ S', rollcalltop_WholeLimit.f 1000 x S0 = some (true, S') := by
  have h9 : (x % 9).toNat < 9 := by omega
  have ha : Int.tmod (w64 x) 9 = Int.tmod (w64 (((⟨(x % 9).toNat, h9⟩ : Fin 9).val : Nat) : Int)) 9 := by
    rw [w64_id (by omega) (by omega), w64_id (by simp only; omega) (by simp only; omega), Int.tmod_eq_emod_of_nonneg hx.1, Int.tmod_eq_emod_of_nonneg (by simp only; omega)]
    simp only
    omega
  rw [limit_mod 1000 ha]
  exact limit9 _
theorem wholeLimit_call (W : World) (a : Int) (w0 : (Lit.int .u8 a).wf = true) : HCall Tryz.prog W.heap.size W B0 6 [.int .u8 a] S0 (fun v _ => v = .bool true) :=
  let ⟨_, h⟩ := limit_spec a (u8_range w0)
  (rollcalltop_WholeLimit.snd h).mono fun _ _ h => h.1
end Go.Proofs.YtfningkbcfhheaaGreatDoor.X
