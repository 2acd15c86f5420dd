/- All of them: what each call answers. Calls of a law's own function, by what was run of them. Functions of the program, each as a Lean function over the layer HL: a call answers what the Lean function answers, where it answers. The law WholeInvite, plain: its own function, run at its four inputs over what its calls answer. -/
import Derived.Test.YtfningkbcfhheaaGreatDoorWv1
import Derived.Test.YtfningkbcfhheaaGreatDoorWv2
import Derived.Test.YtfningkbcfhheaaGreatDoorWv3
import Derived.Test.YtfningkbcfhheaaGreatDoorWv4
import Derived.Test.YtfningkbcfhheaaGreatDoorWv5
import Derived.Test.YtfningkbcfhheaaGreatDoorWv6
import Derived.Test.YtfningkbcfhheaaGreatDoorWv7
import Derived.Test.YtfningkbcfhheaaGreatDoorWv8
import Derived.Test.YtfningkbcfhheaaGreatDoorWv9
import Derived.Test.YtfningkbcfhheaaGreatDoorWv10
import Derived.Test.YtfningkbcfhheaaGreatDoorWv11
import Derived.Test.YtfningkbcfhheaaGreatDoorWv12
import Derived.Test.YtfningkbcfhheaaGreatDoorWv13
import Derived.Test.YtfningkbcfhheaaGreatDoorPart11
import Derived.Test.YtfningkbcfhheaaGreatDoorProg
set_option linter.unusedVariables false
set_option linter.unusedSimpArgs false
namespace Go.Proofs.YtfningkbcfhheaaGreatDoor.X
open Go.Proofs.YtfningkbcfhheaaGreatDoor.HL
set_option linter.unusedVariables false
noncomputable section
def L22 : List Seg := [s1]
theorem L22_ok : ∀ s ∈ L22, SegOk Tryz.prog 22 s := (fun s hs => (List.mem_cons.1 hs).elim (fun e => e ▸ (segsB_ok Kr_ok g1 _ (.tail _ (.head _)))) (SegOk.nil s))
def L25 : List Seg := [s2, s3, s4, s5]
theorem L25_ok : ∀ s ∈ L25, SegOk Tryz.prog 25 s := (fun s hs => (List.mem_cons.1 hs).elim (fun e => e ▸ (segsB_ok Kr_ok g1 _ (.tail _ (.tail _ (.head _))))) ((fun s hs => (List.mem_cons.1 hs).elim (fun e => e ▸ (segsB_ok Kr_ok g2 _ (.head _))) ((fun s hs => (List.mem_cons.1 hs).elim (fun e => e ▸ (segsB_ok Kr_ok g3 _ (.head _))) ((fun s hs => (List.mem_cons.1 hs).elim (fun e => e ▸ (segsB_ok Kr_ok g4 _ (.head _))) (SegOk.nil s)) s)) s)) s))
def K9 : Kn := KL ((22, segC L22) :: (25, segC L25) :: Lr)
theorem K9_ok (base : Nat) (W : Env) : KnOk Tryz.prog base W K9 := KL_ok (.cons (segC_ov L22_ok) (.cons (segC_ov L25_ok) Lr_ok)) base W
theorem gm6 : segsB Tryz.prog K9 [(9, s6)] = some () := by kernel_rfl
def L8 : List Seg := [s0]
theorem L8_ok : ∀ s ∈ L8, SegOk Tryz.prog 8 s := (fun s hs => (List.mem_cons.1 hs).elim (fun e => e ▸ (segsB_ok Kr_ok g1 _ (.head _))) (SegOk.nil s))
def L9 : List Seg := [s6]
theorem L9_ok : ∀ s ∈ L9, SegOk Tryz.prog 9 s := (fun s hs => (List.mem_cons.1 hs).elim (fun e => e ▸ (segsB_ok K9_ok gm6 _ (.head _))) (SegOk.nil s))
def L10 : List Seg := [s7, s8, s9, s10, s13, s15, s16, s18, s20, s21, s26, s28, s29, s31, s33, s34, s37, s40, s42, s43, s45, s47, s48, s53, s55, s56, s58, s60, s61]
theorem L10_ok : ∀ s ∈ L10, SegOk Tryz.prog 10 s := (fun s hs => (List.mem_cons.1 hs).elim (fun e => e ▸ (segsB_ok Kr_ok g5 _ (.head _))) ((fun s hs => (List.mem_cons.1 hs).elim (fun e => e ▸ (segsB_ok Kr_ok g5 _ (.tail _ (.head _)))) ((fun s hs => (List.mem_cons.1 hs).elim (fun e => e ▸ (segsB_ok Kr_ok g5 _ (.tail _ (.tail _ (.head _))))) ((fun s hs => (List.mem_cons.1 hs).elim (fun e => e ▸ (segsB_ok Kr_ok g6 _ (.head _))) ((fun s hs => (List.mem_cons.1 hs).elim (fun e => e ▸ (segsB_ok Kr_ok g6 _ (.tail _ (.tail _ (.tail _ (.head _)))))) ((fun s hs => (List.mem_cons.1 hs).elim (fun e => e ▸ (segsB_ok Kr_ok g6 _ (.tail _ (.tail _ (.tail _ (.tail _ (.tail _ (.head _)))))))) ((fun s hs => (List.mem_cons.1 hs).elim (fun e => e ▸ (segsB_ok Kr_ok g7 _ (.head _))) ((fun s hs => (List.mem_cons.1 hs).elim (fun e => e ▸ (segsB_ok Kr_ok g7 _ (.tail _ (.tail _ (.head _))))) ((fun s hs => (List.mem_cons.1 hs).elim (fun e => e ▸ (segsB_ok Kr_ok g7 _ (.tail _ (.tail _ (.tail _ (.tail _ (.head _))))))) ((fun s hs => (List.mem_cons.1 hs).elim (fun e => e ▸ (segsB_ok Kr_ok g8 _ (.head _))) ((fun s hs => (List.mem_cons.1 hs).elim (fun e => e ▸ (segsB_ok Kr_ok g8 _ (.tail _ (.tail _ (.tail _ (.tail _ (.tail _ (.head _)))))))) ((fun s hs => (List.mem_cons.1 hs).elim (fun e => e ▸ (segsB_ok Kr_ok g8 _ (.tail _ (.tail _ (.tail _ (.tail _ (.tail _ (.tail _ (.tail _ (.head _)))))))))) ((fun s hs => (List.mem_cons.1 hs).elim (fun e => e ▸ (segsB_ok Kr_ok g9 _ (.head _))) ((fun s hs => (List.mem_cons.1 hs).elim (fun e => e ▸ (segsB_ok Kr_ok g9 _ (.tail _ (.tail _ (.head _))))) ((fun s hs => (List.mem_cons.1 hs).elim (fun e => e ▸ (segsB_ok Kr_ok g9 _ (.tail _ (.tail _ (.tail _ (.tail _ (.head _))))))) ((fun s hs => (List.mem_cons.1 hs).elim (fun e => e ▸ (segsB_ok Kr_ok g9 _ (.tail _ (.tail _ (.tail _ (.tail _ (.tail _ (.head _)))))))) ((fun s hs => (List.mem_cons.1 hs).elim (fun e => e ▸ (segsB_ok Kr_ok g10 _ (.head _))) ((fun s hs => (List.mem_cons.1 hs).elim (fun e => e ▸ (segsB_ok Kr_ok g10 _ (.tail _ (.tail _ (.tail _ (.head _)))))) ((fun s hs => (List.mem_cons.1 hs).elim (fun e => e ▸ (segsB_ok Kr_ok g10 _ (.tail _ (.tail _ (.tail _ (.tail _ (.tail _ (.head _)))))))) ((fun s hs => (List.mem_cons.1 hs).elim (fun e => e ▸ (segsB_ok Kr_ok g10 _ (.tail _ (.tail _ (.tail _ (.tail _ (.tail _ (.tail _ (.head _))))))))) ((fun s hs => (List.mem_cons.1 hs).elim (fun e => e ▸ (segsB_ok Kr_ok g11 _ (.head _))) ((fun s hs => (List.mem_cons.1 hs).elim (fun e => e ▸ (segsB_ok Kr_ok g11 _ (.tail _ (.tail _ (.head _))))) ((fun s hs => (List.mem_cons.1 hs).elim (fun e => e ▸ (segsB_ok Kr_ok g11 _ (.tail _ (.tail _ (.tail _ (.head _)))))) ((fun s hs => (List.mem_cons.1 hs).elim (fun e => e ▸ (segsB_ok Kr_ok g12 _ (.head _))) ((fun s hs => (List.mem_cons.1 hs).elim (fun e => e ▸ (segsB_ok Kr_ok g12 _ (.tail _ (.tail _ (.head _))))) ((fun s hs => (List.mem_cons.1 hs).elim (fun e => e ▸ (segsB_ok Kr_ok g12 _ (.tail _ (.tail _ (.tail _ (.head _)))))) ((fun s hs => (List.mem_cons.1 hs).elim (fun e => e ▸ (segsB_ok Kr_ok g12 _ (.tail _ (.tail _ (.tail _ (.tail _ (.tail _ (.head _)))))))) ((fun s hs => (List.mem_cons.1 hs).elim (fun e => e ▸ (segsB_ok Kr_ok g13 _ (.head _))) ((fun s hs => (List.mem_cons.1 hs).elim (fun e => e ▸ (segsB_ok Kr_ok g13 _ (.tail _ (.head _)))) (SegOk.nil s)) s)) s)) s)) s)) s)) s)) s)) s)) s)) s)) s)) s)) s)) s)) s)) s)) s)) s)) s)) s)) s)) s)) s)) s)) s)) s)) s)) s))
def L13 : List Seg := [s11, s24, s38, s51]
theorem L13_ok : ∀ s ∈ L13, SegOk Tryz.prog 13 s := (fun s hs => (List.mem_cons.1 hs).elim (fun e => e ▸ (segsB_ok Kr_ok g6 _ (.tail _ (.head _)))) ((fun s hs => (List.mem_cons.1 hs).elim (fun e => e ▸ (segsB_ok Kr_ok g8 _ (.tail _ (.tail _ (.tail _ (.head _)))))) ((fun s hs => (List.mem_cons.1 hs).elim (fun e => e ▸ (segsB_ok Kr_ok g10 _ (.tail _ (.head _)))) ((fun s hs => (List.mem_cons.1 hs).elim (fun e => e ▸ (segsB_ok Kr_ok g11 _ (.tail _ (.tail _ (.tail _ (.tail _ (.tail _ (.tail _ (.head _))))))))) (SegOk.nil s)) s)) s)) s))
def L14 : List Seg := [s12, s25, s39, s52]
theorem L14_ok : ∀ s ∈ L14, SegOk Tryz.prog 14 s := (fun s hs => (List.mem_cons.1 hs).elim (fun e => e ▸ (segsB_ok Kr_ok g6 _ (.tail _ (.tail _ (.head _))))) ((fun s hs => (List.mem_cons.1 hs).elim (fun e => e ▸ (segsB_ok Kr_ok g8 _ (.tail _ (.tail _ (.tail _ (.tail _ (.head _))))))) ((fun s hs => (List.mem_cons.1 hs).elim (fun e => e ▸ (segsB_ok Kr_ok g10 _ (.tail _ (.tail _ (.head _))))) ((fun s hs => (List.mem_cons.1 hs).elim (fun e => e ▸ (segsB_ok Kr_ok g11 _ (.tail _ (.tail _ (.tail _ (.tail _ (.tail _ (.tail _ (.tail _ (.head _)))))))))) (SegOk.nil s)) s)) s)) s))
def L15 : List Seg := [s14, s17, s19, s22, s27, s30, s32, s35, s41, s44, s46, s49, s54, s57, s59, s62]
theorem L15_ok : ∀ s ∈ L15, SegOk Tryz.prog 15 s := (fun s hs => (List.mem_cons.1 hs).elim (fun e => e ▸ (segsB_ok Kr_ok g6 _ (.tail _ (.tail _ (.tail _ (.tail _ (.head _))))))) ((fun s hs => (List.mem_cons.1 hs).elim (fun e => e ▸ (segsB_ok Kr_ok g7 _ (.tail _ (.head _)))) ((fun s hs => (List.mem_cons.1 hs).elim (fun e => e ▸ (segsB_ok Kr_ok g7 _ (.tail _ (.tail _ (.tail _ (.head _)))))) ((fun s hs => (List.mem_cons.1 hs).elim (fun e => e ▸ (segsB_ok Kr_ok g8 _ (.tail _ (.head _)))) ((fun s hs => (List.mem_cons.1 hs).elim (fun e => e ▸ (segsB_ok Kr_ok g8 _ (.tail _ (.tail _ (.tail _ (.tail _ (.tail _ (.tail _ (.head _))))))))) ((fun s hs => (List.mem_cons.1 hs).elim (fun e => e ▸ (segsB_ok Kr_ok g9 _ (.tail _ (.head _)))) ((fun s hs => (List.mem_cons.1 hs).elim (fun e => e ▸ (segsB_ok Kr_ok g9 _ (.tail _ (.tail _ (.tail _ (.head _)))))) ((fun s hs => (List.mem_cons.1 hs).elim (fun e => e ▸ (segsB_ok Kr_ok g9 _ (.tail _ (.tail _ (.tail _ (.tail _ (.tail _ (.tail _ (.head _))))))))) ((fun s hs => (List.mem_cons.1 hs).elim (fun e => e ▸ (segsB_ok Kr_ok g10 _ (.tail _ (.tail _ (.tail _ (.tail _ (.head _))))))) ((fun s hs => (List.mem_cons.1 hs).elim (fun e => e ▸ (segsB_ok Kr_ok g10 _ (.tail _ (.tail _ (.tail _ (.tail _ (.tail _ (.tail _ (.tail _ (.head _)))))))))) ((fun s hs => (List.mem_cons.1 hs).elim (fun e => e ▸ (segsB_ok Kr_ok g11 _ (.tail _ (.head _)))) ((fun s hs => (List.mem_cons.1 hs).elim (fun e => e ▸ (segsB_ok Kr_ok g11 _ (.tail _ (.tail _ (.tail _ (.tail _ (.head _))))))) ((fun s hs => (List.mem_cons.1 hs).elim (fun e => e ▸ (segsB_ok Kr_ok g12 _ (.tail _ (.head _)))) ((fun s hs => (List.mem_cons.1 hs).elim (fun e => e ▸ (segsB_ok Kr_ok g12 _ (.tail _ (.tail _ (.tail _ (.tail _ (.head _))))))) ((fun s hs => (List.mem_cons.1 hs).elim (fun e => e ▸ (segsB_ok Kr_ok g12 _ (.tail _ (.tail _ (.tail _ (.tail _ (.tail _ (.tail _ (.head _))))))))) ((fun s hs => (List.mem_cons.1 hs).elim (fun e => e ▸ (segsB_ok Kr_ok g13 _ (.tail _ (.tail _ (.head _))))) (SegOk.nil s)) s)) s)) s)) s)) s)) s)) s)) s)) s)) s)) s)) s)) s)) s)) s))
def L16 : List Seg := [s23, s36, s50, s63]
theorem L16_ok : ∀ s ∈ L16, SegOk Tryz.prog 16 s := (fun s hs => (List.mem_cons.1 hs).elim (fun e => e ▸ (segsB_ok Kr_ok g8 _ (.tail _ (.tail _ (.head _))))) ((fun s hs => (List.mem_cons.1 hs).elim (fun e => e ▸ (segsB_ok Kr_ok g9 _ (.tail _ (.tail _ (.tail _ (.tail _ (.tail _ (.tail _ (.tail _ (.head _)))))))))) ((fun s hs => (List.mem_cons.1 hs).elim (fun e => e ▸ (segsB_ok Kr_ok g11 _ (.tail _ (.tail _ (.tail _ (.tail _ (.tail _ (.head _)))))))) ((fun s hs => (List.mem_cons.1 hs).elim (fun e => e ▸ (segsB_ok Kr_ok g13 _ (.tail _ (.tail _ (.tail _ (.head _)))))) (SegOk.nil s)) s)) s)) s))
end
noncomputable section
namespace rollcalltop_awake
theorem at_ : FnAt Tryz.prog 8 Tryz.f8 := ⟨Tryz.func8, by kernel_rfl⟩
theorem body : Tryz.f8.body = some ((Tryz.f8.body).getD .skip) := by kernel_rfl
def f  (S : HS) : Option ((Bool) × HS) := (segH L8 [] S).bind fun p => match p.1 with | .bool a1 => some (a1, p.2) | _ => none
theorem snd {base : Nat} {W0 : Env} {β0 : Bt}  {S : HS} {p : (Bool) × HS} (h : f  S = some p) : HCall Tryz.prog base W0 β0 8 [] S (fun v S1 => v = (.bool p.1) ∧ S1 = p.2) := by
  unfold f at h
  obtain ⟨q, h1, h2⟩ := Option.bind_eq_some_iff.1 h
  split at h2
  · rename_i hq
    cases h2
    exact (segH_ok L8_ok h1).mono fun v S1 g => ⟨g.1.trans hq, g.2⟩
  · cases h2
end rollcalltop_awake
namespace rollcalltop_made
theorem at_ : FnAt Tryz.prog 9 Tryz.f9 := ⟨Tryz.func9, by kernel_rfl⟩
theorem body : Tryz.f9.body = some ((Tryz.f9.body).getD .skip) := by kernel_rfl
def f (x0 : Int) (S : HS) : Option (((Option HA) × Bool) × HS) := (segH L9 [(.int .i64 x0)] S).bind fun p => match p.1 with | .tup [.ptr a1, .bool a2] => some ((a1, a2), p.2) | _ => none
theorem snd {base : Nat} {W0 : Env} {β0 : Bt} {x0 : Int} {S : HS} {p : ((Option HA) × Bool) × HS} (h : f x0 S = some p) : HCall Tryz.prog base W0 β0 9 [(.int .i64 x0)] S (fun v S1 => v = (.tup [(.ptr p.1.1), (.bool p.1.2)]) ∧ S1 = p.2) := by
  unfold f at h
  obtain ⟨q, h1, h2⟩ := Option.bind_eq_some_iff.1 h
  split at h2
  · rename_i hq
    cases h2
    exact (segH_ok L9_ok h1).mono fun v S1 g => ⟨g.1.trans hq, g.2⟩
  · cases h2
end rollcalltop_made
namespace rollcalltop_said
theorem at_ : FnAt Tryz.prog 10 Tryz.f10 := ⟨Tryz.func10, by kernel_rfl⟩
theorem body : Tryz.f10.body = some ((Tryz.f10.body).getD .skip) := by kernel_rfl
def f (x0 : (Option HA)) (x1 : Int) (x2 : (List UInt8)) (x3 : Sl) (S : HS) : Option ((Unit) × HS) := (segH L10 [(.ptr x0), (.int .i64 x1), (.str x2), (Sl.hv x3)] S).bind fun p => match p.1 with | .tup [] => some ((), p.2) | _ => none
theorem snd {base : Nat} {W0 : Env} {β0 : Bt} {x0 : (Option HA)} {x1 : Int} {x2 : (List UInt8)} {x3 : Sl} {S : HS} {p : (Unit) × HS} (h : f x0 x1 x2 x3 S = some p) : HCall Tryz.prog base W0 β0 10 [(.ptr x0), (.int .i64 x1), (.str x2), (Sl.hv x3)] S (fun v S1 => v = (.tup []) ∧ S1 = p.2) := by
  unfold f at h
  obtain ⟨q, h1, h2⟩ := Option.bind_eq_some_iff.1 h
  split at h2
  · rename_i hq
    cases h2
    exact (segH_ok L10_ok h1).mono fun v S1 g => ⟨g.1.trans hq, g.2⟩
  · cases h2
end rollcalltop_said
namespace core_Core_Rooms
theorem at_ : FnAt Tryz.prog 13 Tryz.f13 := ⟨Tryz.func13, by kernel_rfl⟩
theorem body : Tryz.f13.body = some ((Tryz.f13.body).getD .skip) := by kernel_rfl
def f (x0 : (Option HA)) (S : HS) : Option (((Option HA)) × HS) := (segH L13 [(.ptr x0)] S).bind fun p => match p.1 with | .ptr a1 => some (a1, p.2) | _ => none
theorem snd {base : Nat} {W0 : Env} {β0 : Bt} {x0 : (Option HA)} {S : HS} {p : ((Option HA)) × HS} (h : f x0 S = some p) : HCall Tryz.prog base W0 β0 13 [(.ptr x0)] S (fun v S1 => v = (.ptr p.1) ∧ S1 = p.2) := by
  unfold f at h
  obtain ⟨q, h1, h2⟩ := Option.bind_eq_some_iff.1 h
  split at h2
  · rename_i hq
    cases h2
    exact (segH_ok L13_ok h1).mono fun v S1 g => ⟨g.1.trans hq, g.2⟩
  · cases h2
end core_Core_Rooms
namespace rooms_Rooms_Get
theorem at_ : FnAt Tryz.prog 14 Tryz.f14 := ⟨Tryz.func14, by kernel_rfl⟩
theorem body : Tryz.f14.body = some ((Tryz.f14.body).getD .skip) := by kernel_rfl
def f (x0 : (Option HA)) (x1 : (List UInt8)) (S : HS) : Option (((Option HA) × Bool) × HS) := (segH L14 [(.ptr x0), (.str x1)] S).bind fun p => match p.1 with | .tup [.ptr a1, .bool a2] => some ((a1, a2), p.2) | _ => none
theorem snd {base : Nat} {W0 : Env} {β0 : Bt} {x0 : (Option HA)} {x1 : (List UInt8)} {S : HS} {p : ((Option HA) × Bool) × HS} (h : f x0 x1 S = some p) : HCall Tryz.prog base W0 β0 14 [(.ptr x0), (.str x1)] S (fun v S1 => v = (.tup [(.ptr p.1.1), (.bool p.1.2)]) ∧ S1 = p.2) := by
  unfold f at h
  obtain ⟨q, h1, h2⟩ := Option.bind_eq_some_iff.1 h
  split at h2
  · rename_i hq
    cases h2
    exact (segH_ok L14_ok h1).mono fun v S1 g => ⟨g.1.trans hq, g.2⟩
  · cases h2
end rooms_Rooms_Get
namespace room_Room_Member
theorem at_ : FnAt Tryz.prog 15 Tryz.f15 := ⟨Tryz.func15, by kernel_rfl⟩
theorem body : Tryz.f15.body = some ((Tryz.f15.body).getD .skip) := by kernel_rfl
def f (x0 : (Option HA)) (x1 : Int) (S : HS) : Option ((Int × Bool × Bool × Bool) × HS) := (segH L15 [(.ptr x0), (.int .i64 x1)] S).bind fun p => match p.1 with | .tup [.agg [.int .i64 a2, .bool a3, .bool a4], .bool a5] => some ((a2, a3, a4, a5), p.2) | _ => none
theorem snd {base : Nat} {W0 : Env} {β0 : Bt} {x0 : (Option HA)} {x1 : Int} {S : HS} {p : (Int × Bool × Bool × Bool) × HS} (h : f x0 x1 S = some p) : HCall Tryz.prog base W0 β0 15 [(.ptr x0), (.int .i64 x1)] S (fun v S1 => v = (.tup [(.agg [(.int .i64 p.1.1), (.bool p.1.2.1), (.bool p.1.2.2.1)]), (.bool p.1.2.2.2)]) ∧ S1 = p.2) := by
  unfold f at h
  obtain ⟨q, h1, h2⟩ := Option.bind_eq_some_iff.1 h
  split at h2
  · rename_i hq
    cases h2
    exact (segH_ok L15_ok h1).mono fun v S1 g => ⟨g.1.trans hq, g.2⟩
  · cases h2
end room_Room_Member
namespace room_Room_Len
theorem at_ : FnAt Tryz.prog 16 Tryz.f16 := ⟨Tryz.func16, by kernel_rfl⟩
theorem body : Tryz.f16.body = some ((Tryz.f16.body).getD .skip) := by kernel_rfl
def f (x0 : (Option HA)) (S : HS) : Option ((Int) × HS) := (segH L16 [(.ptr x0)] S).bind fun p => match p.1 with | .int .i64 a1 => some (a1, p.2) | _ => none
theorem snd {base : Nat} {W0 : Env} {β0 : Bt} {x0 : (Option HA)} {S : HS} {p : (Int) × HS} (h : f x0 S = some p) : HCall Tryz.prog base W0 β0 16 [(.ptr x0)] S (fun v S1 => v = (.int .i64 p.1) ∧ S1 = p.2) := by
  unfold f at h
  obtain ⟨q, h1, h2⟩ := Option.bind_eq_some_iff.1 h
  split at h2
  · rename_i hq
    cases h2
    exact (segH_ok L16_ok h1).mono fun v S1 g => ⟨g.1.trans hq, g.2⟩
  · cases h2
end room_Room_Len
end
end Go.Proofs.YtfningkbcfhheaaGreatDoor.X
namespace Go.Proofs.YtfningkbcfhheaaGreatDoor.X
open Go.Proofs.YtfningkbcfhheaaGreatDoor.HL
set_option linter.unusedVariables false
set_option linter.unusedSimpArgs false
set_option maxRecDepth 20000
set_option maxHeartbeats 4000000
noncomputable section
theorem fi41_0 : fieldInfo Tryz.prog 41 0 = some (0, 39, 1) := by kernel_rfl
theorem sc39 : Scalar Tryz.prog 39 := ⟨(.pointer 78), by kernel_rfl, trivial⟩
theorem zi44 : (Tryz.prog.info? 44).map (·.zero) = some (some (.agg #[(.int .i64 0), (.bool false), (.bool false)])) := by kernel_rfl
theorem zr44 : ∀ β, VRels β [(.int .i64 0), (.bool false), (.bool false)] (Value.cells (.agg #[(.int .i64 0), (.bool false), (.bool false)])) := fun β => VRels.cons (.int _ _) (VRels.cons (.bool _) (VRels.cons (.bool _) (VRels.nil β)))
theorem tu4 : Tryz.prog.underlying 4 = some .bool := by kernel_rfl
namespace rollcalltop_WholeInvite
theorem at_ : FnAt Tryz.prog 4 Tryz.f4 := ⟨Tryz.func4, by kernel_rfl⟩
noncomputable def d0 := (Tryz.f4.body).getD .skip
noncomputable def r1 := kR (kA d0)
noncomputable def r4 := kR (kA (kA (kB d0)))
noncomputable def r7 := kR (kA (kA (kB (kA (kB d0)))))
noncomputable def r11 := kR (kA (kB (kB d0)))
noncomputable def d12 := kB (kB (kB d0))
noncomputable def r14 := kR (kA (kA d12))
noncomputable def r17 := kR (kA (kA (kB (kA d12))))
noncomputable def r21 := kR (kA (kB d12))
noncomputable def r23 := kR (kA (kB (kB d12)))
noncomputable def d24 := kB (kB (kB d12))
noncomputable def r26 := kR (kA (kA d24))
noncomputable def r28 := kR (kA (kB (kA d24)))
noncomputable def r32 := kR (kA (kA (kB d24)))
noncomputable def r34 := kR (kA (kB (kA (kB d24))))
noncomputable def r37 := kR (kA (kB (kB d24)))
noncomputable def d38 := kB (kB (kB d24))
noncomputable def r40 := kR (kA (kA d38))
noncomputable def r43 := kR (kA (kA (kB (kA d38))))
noncomputable def r48 := kR (kA (kA (kB d38)))
noncomputable def d49 := kB (kA (kB d38))
noncomputable def r53 := kR (kA (kA (kA (kA d49))))
noncomputable def d57 := kB (kA (kA d49))
noncomputable def r60 := kR (kA (kA (kA d57)))
noncomputable def d61 := kB (kA (kA d57))
noncomputable def r63 := kR (kA (kA d61))
noncomputable def r65 := kR (kA (kB (kA d61)))
noncomputable def r68 := kR (kA (kB d61))
noncomputable def r71 := kR (kA (kA (kB (kB d61))))
noncomputable def r73 := kR (kA (kB (kA (kB (kB d61)))))
noncomputable def r76 := kR (kA (kA (kB (kB (kA (kB (kB d61)))))))
noncomputable def d79 := kB (kB (kB d61))
noncomputable def r80 := kR (kA d79)
noncomputable def r82 := kR (kA (kB d79))
noncomputable def r84 := kR (kA (kB (kB d79)))
noncomputable def r86 := kR (kA (kB (kB (kB d79))))
noncomputable def r89 := kR (kA (kA (kB (kB (kB (kB d79))))))
noncomputable def r92 := kR (kB d57)
noncomputable def r94 := kR (kA (kB (kB d38)))
noncomputable def c93 : Code := .seq (.region 30 r94 false) .ret
noncomputable def c92 : Code := .region 17 r92 false
noncomputable def c67 : Code := .seq (.region 21 r68 false) (.seq (.seq (.region 22 r71 false) (.seq (.region 23 r73 false) (.cond (.tmp 68) (.seq (.region 24 r76 false) .ret) .skip))) (.seq (.region 25 r80 false) (.seq (.region 26 r82 false) (.seq (.region 27 r84 false) (.seq (.region 28 r86 false) (.cond (.tmp 83) (.seq (.region 29 r89 false) .ret) .skip))))))
noncomputable def c51 : Code := .seq (.seq (.region 16 r53 false) (.cond (.tmp 49) .skip (.exit 0))) (.seq (.block 1 (.seq (.region 18 r60 false) (.seq (.seq (.region 19 r63 false) (.cond (.tmp 54) (.region 20 r65 false) .skip)) c67))) c92)
noncomputable def c36 : Code := .seq (.region 12 r37 false) (.seq (.seq (.region 13 r40 false) (.cond (.tmp 47) (.seq (.region 14 r43 false) .ret) .skip)) (.seq (.seq (.region 15 r48 false) (.block 0 (.loop c51))) c93))
noncomputable def c30 : Code := .seq (.seq (.region 10 r32 false) (.cond (.tmp 33) (.region 11 r34 false) .skip)) c36
noncomputable def c0 : Code := .seq (.region 0 r1 false) (.seq (.seq (.region 1 r4 false) (.cond (.tmp 16) (.seq (.region 2 r7 false) .ret) .skip)) (.seq (.region 3 r11 false) (.seq (.seq (.region 4 r14 false) (.cond (.tmp 22) (.seq (.region 5 r17 false) .ret) .skip)) (.seq (.region 6 r21 false) (.seq (.region 7 r23 false) (.seq (.seq (.region 8 r26 false) (.cond (.tmp 29) (.region 9 r28 false) .skip)) c30))))))
theorem body : Tryz.f4.body = some c0 := by kernel_rfl
section
variable {base : Nat} {W0 : Env} {β0 : Bt}
def J3 (k : Nat) (rec0 : Bool → Bool → (Option HA) → (Option HA) → Int → HS → Option ((Bool) × HS)) (y0 : Bool) (y1 : Bool) (y5 : (Option HA)) (y7 : (Option HA)) (y9 : Int) (y10 : Bool) (S : HS) : Option ((Bool) × HS) :=
  (letv (HS.lit S [[(.str ([35, 114] : List UInt8))]] 1) fun p22 =>
  (Option.bind (rollcalltop_said.f y5 y9 ([74, 79, 73, 78] : List UInt8) (p22.1) (p22.2)) fun p23 =>
  (Option.bind (room_Room_Member.f y7 y9 p23.2) fun p24 =>
  (letv (HS.new p24.2 (.cells 3 [[(.int .i64 0), (.bool false), (.bool false)]] true)) fun p25 =>
  (Option.bind (HS.sets p25 (HA.cell0 p24.2.next) [(.int .i64 p24.1.1), (.bool p24.1.2.1), (.bool p24.1.2.2.1)]) fun p26 =>
  (if (!(p24.1.2.2.2 == y10)) = true then
  some (false, p26) else
  (letv (HS.lit p26 [[(.str ([35, 114] : List UInt8))]] 1) fun p28 =>
  (Option.bind (rollcalltop_said.f y5 y9 ([80, 65, 82, 84] : List UInt8) (p28.1) (p28.2)) fun p29 =>
  (letv (HS.lit p29.2 [[(.str ([35, 114] : List UInt8))]] 1) fun p30 =>
  (Option.bind (rollcalltop_said.f y5 y9 ([74, 79, 73, 78] : List UInt8) (p30.1) (p30.2)) fun p31 =>
  (Option.bind (room_Room_Member.f y7 y9 p31.2) fun p32 =>
  (letv (HS.new p32.2 (.cells 3 [[(.int .i64 0), (.bool false), (.bool false)]] true)) fun p33 =>
  (Option.bind (HS.sets p33 (HA.cell0 p32.2.next) [(.int .i64 p32.1.1), (.bool p32.1.2.1), (.bool p32.1.2.2.1)]) fun p34 =>
  (if p32.1.2.2.2 = true then
  some (false, p34) else
  rec0 y0 y1 y5 y7 (w64 (y9 + 1)) p34))))))))))))))
theorem J3_snd {k : Nat} {rec0 : Bool → Bool → (Option HA) → (Option HA) → Int → HS → Option ((Bool) × HS)} (hrec0 : ∀ ⦃y0 : Bool⦄ ⦃y1 : Bool⦄ ⦃y5 : (Option HA)⦄ ⦃y7 : (Option HA)⦄ ⦃y9 : Int⦄ ⦃S : HS⦄ ⦃p : (Bool) × HS⦄ ⦃g2 g3 g4 g6 g8 g10 g11 g12 g13 g14 g15 g16 g17 g18 g19 g20 g21 g22 g23 g24 g25 g26 g27 g28 g29 g30 g31 g32 g33 g34 g35 g36 g37 g38 g39 g40 g41 g42 g43 g44 g45 g46 g47 g48 g49 g50 g51 g52 g53 g54 g55 g56 g57 g58 g59 g60 g61 g62 g63 g64 g65 g66 g67 g68 g69 g70 g71 g72 g73 g74 g75 g76 g77 g78 g79 g80 g81 g82 g83 g84 g85 g86 : HV⦄, rec0 y0 y1 y5 y7 y9 S = some p → HRun Tryz.prog base W0 β0 4 none [.inLoop c51, .inBlock 0, .code c93] ⟨[(.bool y0), (.bool y1), g2, g3, g4, (.ptr y5), g6, (.ptr y7), g8, (.int .i64 y9), g10, g11, g12, g13, g14, g15, g16, g17, g18, g19, g20, g21, g22, g23, g24, g25, g26, g27, g28, g29, g30, g31, g32, g33, g34, g35, g36, g37, g38, g39, g40, g41, g42, g43, g44, g45, g46, g47, g48, g49, g50, g51, g52, g53, g54, g55, g56, g57, g58, g59, g60, g61, g62, g63, g64, g65, g66, g67, g68, g69, g70, g71, g72, g73, g74, g75, g76, g77, g78, g79, g80, g81, g82, g83, g84, g85, g86], []⟩ S (fun v S1 => v = (.bool p.1) ∧ S1 = p.2)) {y0 : Bool} {y1 : Bool} {y5 : (Option HA)} {y7 : (Option HA)} {y9 : Int} {y10 : Bool} {S : HS} {p : (Bool) × HS} {g2 g3 g4 g6 g8 g11 g12 g13 g14 g15 g16 g17 g18 g19 g20 g21 g22 g23 g24 g25 g26 g27 g28 g29 g30 g31 g32 g33 g34 g35 g36 g37 g38 g39 g40 g41 g42 g43 g44 g45 g46 g47 g48 g49 g50 g51 g52 g53 g54 g55 g56 g57 g58 g59 g60 g61 g62 g63 g64 g65 g66 g67 g68 g69 g70 g71 g72 g73 g74 g75 g76 g77 g78 g79 g80 g81 g82 g83 g84 g85 g86 : HV} (h : J3 k rec0 y0 y1 y5 y7 y9 y10 S = some p) : HRun Tryz.prog base W0 β0 4 none [.code c67, .inBlock 1, .code c92, .inLoop c51, .inBlock 0, .code c93] ⟨[(.bool y0), (.bool y1), g2, g3, g4, (.ptr y5), g6, (.ptr y7), g8, (.int .i64 y9), (.bool y10), g11, g12, g13, g14, g15, g16, g17, g18, g19, g20, g21, g22, g23, g24, g25, g26, g27, g28, g29, g30, g31, g32, g33, g34, g35, g36, g37, g38, g39, g40, g41, g42, g43, g44, g45, g46, g47, g48, g49, g50, g51, g52, g53, g54, g55, g56, g57, g58, g59, g60, g61, g62, g63, g64, g65, g66, g67, g68, g69, g70, g71, g72, g73, g74, g75, g76, g77, g78, g79, g80, g81, g82, g83, g84, g85, g86], []⟩ S (fun v S1 => v = (.bool p.1) ∧ S1 = p.2) := by
  unfold J3 at h
  refine q_seq rfl ?_
  refine q_region rfl rfl ?_
  refine qS 56 rfl (ok_move · (.tmp rfl)) ?_
  refine qS 57 rfl (ok_move · (.tmp rfl)) ?_
  obtain ⟨p22, hp22, h⟩ := leto h
  refine qS 58 rfl (ok_buildSlice_s (xs := [(.const (.string ⟨#[35, 114]⟩))]) el30 · rfl rfl (by decide) (.cons (.str _) Evs.nil) rfl rfl hp22) ?_
  obtain ⟨p23, hp23, h⟩ := bindo h
  refine q_call (dst := some 59) rfl (.func _) (.cons (.tmp rfl) (.cons (.tmp rfl) (.cons (.str _) (.cons (.tmp rfl) Evs.nil)))) (HInv.static rollcalltop_said.at_ rollcalltop_said.body (rollcalltop_said.snd  hp23)) ?_
  rintro _ _ ⟨rfl, rfl⟩
  refine hr_region_end ?_
  try dsimp only [w0, w1, w2, w3]
  refine q_seq rfl ?_
  refine q_seq rfl ?_
  refine q_region rfl rfl ?_
  refine qS 61 rfl (ok_move · (.tmp rfl)) ?_
  refine qS 62 rfl (ok_move · (.tmp rfl)) ?_
  obtain ⟨p24, hp24, h⟩ := bindo h
  refine q_call (dst := some 63) rfl (.func _) (.cons (.tmp rfl) (.cons (.tmp rfl) Evs.nil)) (HInv.static room_Room_Member.at_ room_Room_Member.body (room_Room_Member.snd  hp24)) ?_
  rintro _ _ ⟨rfl, rfl⟩
  refine qS 60 rfl (ok_move · (.tmp rfl)) ?_
  try dsimp only [w0, w1, w2, w3]
  refine qS 64 rfl (ok_extract · (.tmp rfl) rfl) ?_
  refine qS 65 rfl (ok_extract · (.tmp rfl) rfl) ?_
  obtain ⟨p25, hp25, h⟩ := leto h
  refine qS 11 rfl (ok_alloc_e · zi44 zr44 (by decide) rfl hp25) ?_
  obtain ⟨p26, hp26, h⟩ := bindo h
  refine qN rfl (ok_store_s (v := (.agg [(.int .i64 p24.1.1), (.bool p24.1.2.1), (.bool p24.1.2.2.1)])) · sz44 (.tmp rfl) rfl (.tmp rfl) rfl hp26) ?_
  try dsimp only [w0, w1, w2, w3]
  refine qS 12 rfl (ok_assign · (.tmp rfl)) ?_
  refine hr_region_end ?_
  try dsimp only [w0, w1, w2, w3]
  refine q_seq rfl ?_
  refine q_region rfl rfl ?_
  refine qS 66 rfl (ok_move · (.tmp rfl)) ?_
  refine qS 67 rfl (ok_move · (.tmp rfl)) ?_
  refine qS 68 rfl (ok_beq · tu4 (.inr ⟨rfl, rfl⟩) (.tmp rfl) (.tmp rfl)) ?_
  refine hr_region_end ?_
  try dsimp only [w0, w1, w2, w3]
  rcases ifc h with ⟨hc27, h⟩ | ⟨hc27, h⟩
  · refine q_cond_t rfl (.tmp rfl) hc27 ?_
    refine q_seq rfl ?_
    refine q_region rfl rfl ?_
    refine qS 4 rfl (ok_assign · (.bool _)) ?_
    refine hr_region_end ?_
    try dsimp only [w0, w1, w2, w3]
    cases h
    exact q_ret rfl at_.at_ rfl (res1 rfl rfl) ⟨rfl, rfl⟩
  · refine q_cond_f rfl (.tmp rfl) (bfalse hc27) ?_
    refine q_skipc rfl ?_
    refine q_seq rfl ?_
    refine q_region rfl rfl ?_
    refine qS 69 rfl (ok_move · (.tmp rfl)) ?_
    refine qS 70 rfl (ok_move · (.tmp rfl)) ?_
    obtain ⟨p28, hp28, h⟩ := leto h
    refine qS 71 rfl (ok_buildSlice_s (xs := [(.const (.string ⟨#[35, 114]⟩))]) el30 · rfl rfl (by decide) (.cons (.str _) Evs.nil) rfl rfl hp28) ?_
    obtain ⟨p29, hp29, h⟩ := bindo h
    refine q_call (dst := some 72) rfl (.func _) (.cons (.tmp rfl) (.cons (.tmp rfl) (.cons (.str _) (.cons (.tmp rfl) Evs.nil)))) (HInv.static rollcalltop_said.at_ rollcalltop_said.body (rollcalltop_said.snd  hp29)) ?_
    rintro _ _ ⟨rfl, rfl⟩
    refine hr_region_end ?_
    try dsimp only [w0, w1, w2, w3]
    refine q_seq rfl ?_
    refine q_region rfl rfl ?_
    refine qS 73 rfl (ok_move · (.tmp rfl)) ?_
    refine qS 74 rfl (ok_move · (.tmp rfl)) ?_
    obtain ⟨p30, hp30, h⟩ := leto h
    refine qS 75 rfl (ok_buildSlice_s (xs := [(.const (.string ⟨#[35, 114]⟩))]) el30 · rfl rfl (by decide) (.cons (.str _) Evs.nil) rfl rfl hp30) ?_
    obtain ⟨p31, hp31, h⟩ := bindo h
    refine q_call (dst := some 76) rfl (.func _) (.cons (.tmp rfl) (.cons (.tmp rfl) (.cons (.str _) (.cons (.tmp rfl) Evs.nil)))) (HInv.static rollcalltop_said.at_ rollcalltop_said.body (rollcalltop_said.snd  hp31)) ?_
    rintro _ _ ⟨rfl, rfl⟩
    refine hr_region_end ?_
    try dsimp only [w0, w1, w2, w3]
    refine q_seq rfl ?_
    refine q_region rfl rfl ?_
    refine qS 78 rfl (ok_move · (.tmp rfl)) ?_
    refine qS 79 rfl (ok_move · (.tmp rfl)) ?_
    obtain ⟨p32, hp32, h⟩ := bindo h
    refine q_call (dst := some 80) rfl (.func _) (.cons (.tmp rfl) (.cons (.tmp rfl) Evs.nil)) (HInv.static room_Room_Member.at_ room_Room_Member.body (room_Room_Member.snd  hp32)) ?_
    rintro _ _ ⟨rfl, rfl⟩
    refine qS 77 rfl (ok_move · (.tmp rfl)) ?_
    try dsimp only [w0, w1, w2, w3]
    refine qS 81 rfl (ok_extract · (.tmp rfl) rfl) ?_
    refine qS 82 rfl (ok_extract · (.tmp rfl) rfl) ?_
    obtain ⟨p33, hp33, h⟩ := leto h
    refine qS 13 rfl (ok_alloc_e · zi44 zr44 (by decide) rfl hp33) ?_
    obtain ⟨p34, hp34, h⟩ := bindo h
    refine qN rfl (ok_store_s (v := (.agg [(.int .i64 p32.1.1), (.bool p32.1.2.1), (.bool p32.1.2.2.1)])) · sz44 (.tmp rfl) rfl (.tmp rfl) rfl hp34) ?_
    try dsimp only [w0, w1, w2, w3]
    refine qS 14 rfl (ok_assign · (.tmp rfl)) ?_
    refine hr_region_end ?_
    try dsimp only [w0, w1, w2, w3]
    refine q_seq rfl ?_
    refine q_region rfl rfl ?_
    refine qS 83 rfl (ok_move · (.tmp rfl)) ?_
    refine hr_region_end ?_
    try dsimp only [w0, w1, w2, w3]
    rcases ifc h with ⟨hc35, h⟩ | ⟨hc35, h⟩
    · refine q_cond_t rfl (.tmp rfl) hc35 ?_
      refine q_seq rfl ?_
      refine q_region rfl rfl ?_
      refine qS 4 rfl (ok_assign · (.bool _)) ?_
      refine hr_region_end ?_
      try dsimp only [w0, w1, w2, w3]
      cases h
      exact q_ret rfl at_.at_ rfl (res1 rfl rfl) ⟨rfl, rfl⟩
    · refine q_cond_f rfl (.tmp rfl) (bfalse hc35) ?_
      refine q_skipc rfl ?_
      refine hr_inBlock ?_
      refine q_region rfl rfl ?_
      refine qS 50 rfl (ok_move · (.tmp rfl)) ?_
      refine qS 51 rfl (ok_ibin · (.tmp rfl) (.int _ _) rfl) ?_
      refine qS 9 rfl (ok_assign · (.tmp rfl)) ?_
      refine hr_region_end ?_
      try dsimp only [w0, w1, w2, w3]
      try dsimp only [w0, w1, w2, w3]
      exact hrec0 h
def L2 (k : Nat) : Nat → Bool → Bool → (Option HA) → (Option HA) → Int → HS → Option ((Bool) × HS)
  | 0, _, _, _, _, _, _ => none
  | n + 1, y0, y1, y5, y7, y9, S =>
    (if y9 ≤ 3 then
    (if y9 = 3 then
    J3 k (L2 k n) y0 y1 y5 y7 y9 y1 S else
    J3 k (L2 k n) y0 y1 y5 y7 y9 y0 S) else
    (Option.bind (room_Room_Len.f y7 S) fun p36 =>
    some ((decide (p36.1 = 1)), p36.2)))
theorem L2_snd {k : Nat}  : ∀ {n : Nat} ⦃y0 : Bool⦄ ⦃y1 : Bool⦄ ⦃y5 : (Option HA)⦄ ⦃y7 : (Option HA)⦄ ⦃y9 : Int⦄ ⦃S : HS⦄ ⦃p : (Bool) × HS⦄ ⦃g2 g3 g4 g6 g8 g10 g11 g12 g13 g14 g15 g16 g17 g18 g19 g20 g21 g22 g23 g24 g25 g26 g27 g28 g29 g30 g31 g32 g33 g34 g35 g36 g37 g38 g39 g40 g41 g42 g43 g44 g45 g46 g47 g48 g49 g50 g51 g52 g53 g54 g55 g56 g57 g58 g59 g60 g61 g62 g63 g64 g65 g66 g67 g68 g69 g70 g71 g72 g73 g74 g75 g76 g77 g78 g79 g80 g81 g82 g83 g84 g85 g86 : HV⦄, L2 k n y0 y1 y5 y7 y9 S = some p → HRun Tryz.prog base W0 β0 4 none [.inLoop c51, .inBlock 0, .code c93] ⟨[(.bool y0), (.bool y1), g2, g3, g4, (.ptr y5), g6, (.ptr y7), g8, (.int .i64 y9), g10, g11, g12, g13, g14, g15, g16, g17, g18, g19, g20, g21, g22, g23, g24, g25, g26, g27, g28, g29, g30, g31, g32, g33, g34, g35, g36, g37, g38, g39, g40, g41, g42, g43, g44, g45, g46, g47, g48, g49, g50, g51, g52, g53, g54, g55, g56, g57, g58, g59, g60, g61, g62, g63, g64, g65, g66, g67, g68, g69, g70, g71, g72, g73, g74, g75, g76, g77, g78, g79, g80, g81, g82, g83, g84, g85, g86], []⟩ S (fun v S1 => v = (.bool p.1) ∧ S1 = p.2) := by
  intro n
  induction n with
  | zero => intro _ _ _ _ _ _ _ _ _ _ _ _ _ _ _ _ _ _ _ _ _ _ _ _ _ _ _ _ _ _ _ _ _ _ _ _ _ _ _ _ _ _ _ _ _ _ _ _ _ _ _ _ _ _ _ _ _ _ _ _ _ _ _ _ _ _ _ _ _ _ _ _ _ _ _ _ _ _ _ _ _ _ _ _ _ _ _ _ _ h; cases h
  | succ n ih =>
    intro y0 y1 y5 y7 y9 S p g2 g3 g4 g6 g8 g10 g11 g12 g13 g14 g15 g16 g17 g18 g19 g20 g21 g22 g23 g24 g25 g26 g27 g28 g29 g30 g31 g32 g33 g34 g35 g36 g37 g38 g39 g40 g41 g42 g43 g44 g45 g46 g47 g48 g49 g50 g51 g52 g53 g54 g55 g56 g57 g58 g59 g60 g61 g62 g63 g64 g65 g66 g67 g68 g69 g70 g71 g72 g73 g74 g75 g76 g77 g78 g79 g80 g81 g82 g83 g84 g85 g86 h
    simp only [L2] at h
    refine hr_inLoop ?_
    refine q_seq rfl ?_
    refine q_seq rfl ?_
    refine q_region rfl rfl ?_
    refine qS 48 rfl (ok_move · (.tmp rfl)) ?_
    refine qS 49 rfl (ok_ibin · (.tmp rfl) (.int _ _) rfl) ?_
    refine hr_region_end ?_
    try dsimp only [w0, w1, w2, w3]
    rcases ifc h with ⟨hc20, h⟩ | ⟨hc20, h⟩
    · refine q_cond_t rfl (.tmp rfl) (decide_eq_true hc20) ?_
      refine q_skipc rfl ?_
      refine q_seq rfl ?_
      refine q_block rfl ?_
      refine q_seq rfl ?_
      refine q_region rfl rfl ?_
      refine qS 52 rfl (ok_move · (.tmp rfl)) ?_
      refine qS 10 rfl (ok_assign · (.tmp rfl)) ?_
      refine hr_region_end ?_
      try dsimp only [w0, w1, w2, w3]
      refine q_seq rfl ?_
      refine q_seq rfl ?_
      refine q_region rfl rfl ?_
      refine qS 53 rfl (ok_move · (.tmp rfl)) ?_
      refine qS 54 rfl (ok_ibin · (.tmp rfl) (.int _ _) rfl) ?_
      refine hr_region_end ?_
      try dsimp only [w0, w1, w2, w3]
      rcases ifc h with ⟨hc21, h⟩ | ⟨hc21, h⟩
      · refine q_cond_t rfl (.tmp rfl) (decide_eq_true hc21) ?_
        refine q_region rfl rfl ?_
        refine qS 55 rfl (ok_move · (.tmp rfl)) ?_
        refine qS 10 rfl (ok_assign · (.tmp rfl)) ?_
        refine hr_region_end ?_
        try dsimp only [w0, w1, w2, w3]
        try dsimp only [w0, w1, w2, w3]
        exact J3_snd ih h
      · refine q_cond_f rfl (.tmp rfl) (decide_eq_false hc21) ?_
        refine q_skipc rfl ?_
        try dsimp only [w0, w1, w2, w3]
        exact J3_snd ih h
    · refine q_cond_f rfl (.tmp rfl) (decide_eq_false hc20) ?_
      refine q_exit rfl rfl ?_
      refine q_seq rfl ?_
      refine q_region rfl rfl ?_
      refine qS 84 rfl (ok_move · (.tmp rfl)) ?_
      obtain ⟨p36, hp36, h⟩ := bindo h
      refine q_call (dst := some 85) rfl (.func _) (.cons (.tmp rfl) Evs.nil) (HInv.static room_Room_Len.at_ room_Room_Len.body (room_Room_Len.snd  hp36)) ?_
      rintro _ _ ⟨rfl, rfl⟩
      refine qS 86 rfl (ok_ibin · (.tmp rfl) (.int _ _) rfl) ?_
      refine qS 4 rfl (ok_assign · (.tmp rfl)) ?_
      refine hr_region_end ?_
      try dsimp only [w0, w1, w2, w3]
      cases h
      exact q_ret rfl at_.at_ rfl (res1 rfl rfl) ⟨rfl, rfl⟩
def J1 (k : Nat) (y0 : Bool) (y1 : Bool) (y5 : (Option HA)) (S : HS) : Option ((Bool) × HS) :=
  (Option.bind (y5) fun p15 =>
  (Option.bind (HS.ldP S (HA.fld p15 0)) fun p16 =>
  (Option.bind (core_Core_Rooms.f p16 S) fun p17 =>
  (Option.bind (rooms_Rooms_Get.f p17.1 ([35, 114] : List UInt8) p17.2) fun p18 =>
  (if (!p18.1.2) = true then
  some (false, p18.2) else
  L2 k k y0 y1 y5 p18.1.1 2 p18.2)))))
theorem J1_snd {k : Nat}  {y0 : Bool} {y1 : Bool} {y5 : (Option HA)} {S : HS} {p : (Bool) × HS} {g2 g3 g4 g6 g7 g8 g9 g10 g11 g12 g13 g14 g15 g16 g17 g18 g19 g20 g21 g22 g23 g24 g25 g26 g27 g28 g29 g30 g31 g32 g33 g34 g35 g36 g37 g38 g39 g40 g41 g42 g43 g44 g45 g46 g47 g48 g49 g50 g51 g52 g53 g54 g55 g56 g57 g58 g59 g60 g61 g62 g63 g64 g65 g66 g67 g68 g69 g70 g71 g72 g73 g74 g75 g76 g77 g78 g79 g80 g81 g82 g83 g84 g85 g86 : HV} (h : J1 k y0 y1 y5 S = some p) : HRun Tryz.prog base W0 β0 4 none [.code c36] ⟨[(.bool y0), (.bool y1), g2, g3, g4, (.ptr y5), g6, g7, g8, g9, g10, g11, g12, g13, g14, g15, g16, g17, g18, g19, g20, g21, g22, g23, g24, g25, g26, g27, g28, g29, g30, g31, g32, g33, g34, g35, g36, g37, g38, g39, g40, g41, g42, g43, g44, g45, g46, g47, g48, g49, g50, g51, g52, g53, g54, g55, g56, g57, g58, g59, g60, g61, g62, g63, g64, g65, g66, g67, g68, g69, g70, g71, g72, g73, g74, g75, g76, g77, g78, g79, g80, g81, g82, g83, g84, g85, g86], []⟩ S (fun v S1 => v = (.bool p.1) ∧ S1 = p.2) := by
  unfold J1 at h
  refine q_seq rfl ?_
  refine q_region rfl rfl ?_
  refine qS 38 rfl (ok_move · (.tmp rfl)) ?_
  obtain ⟨p15, hp15, h⟩ := bindo h
  refine qS 39 rfl (ok_nilCheck_p · (.tmp rfl) hp15) ?_
  refine qS 40 rfl (ok_fieldAddr_s · fi41_0 (by decide) (.tmp rfl) rfl) ?_
  obtain ⟨p16, hp16, h⟩ := bindo h
  refine qS 41 rfl (ok_load_s · sc39 (.tmp rfl) rfl (ldP_out hp16)) ?_
  try dsimp only [w0, w1, w2, w3]
  obtain ⟨p17, hp17, h⟩ := bindo h
  refine q_call (dst := some 42) rfl (.func _) (.cons (.tmp rfl) Evs.nil) (HInv.static core_Core_Rooms.at_ core_Core_Rooms.body (core_Core_Rooms.snd  hp17)) ?_
  rintro _ _ ⟨rfl, rfl⟩
  obtain ⟨p18, hp18, h⟩ := bindo h
  refine q_call (dst := some 43) rfl (.func _) (.cons (.tmp rfl) (.cons (.str _) Evs.nil)) (HInv.static rooms_Rooms_Get.at_ rooms_Rooms_Get.body (rooms_Rooms_Get.snd  hp18)) ?_
  rintro _ _ ⟨rfl, rfl⟩
  refine qS 37 rfl (ok_move · (.tmp rfl)) ?_
  refine qS 44 rfl (ok_extract · (.tmp rfl) rfl) ?_
  try dsimp only [w0, w1, w2, w3]
  refine qS 45 rfl (ok_extract · (.tmp rfl) rfl) ?_
  refine qS 7 rfl (ok_assign · (.tmp rfl)) ?_
  refine qS 8 rfl (ok_assign · (.tmp rfl)) ?_
  refine hr_region_end ?_
  try dsimp only [w0, w1, w2, w3]
  refine q_seq rfl ?_
  refine q_seq rfl ?_
  refine q_region rfl rfl ?_
  refine qS 46 rfl (ok_move · (.tmp rfl)) ?_
  refine qS 47 rfl (ok_not · (.tmp rfl)) ?_
  refine hr_region_end ?_
  try dsimp only [w0, w1, w2, w3]
  rcases ifc h with ⟨hc19, h⟩ | ⟨hc19, h⟩
  · refine q_cond_t rfl (.tmp rfl) hc19 ?_
    refine q_seq rfl ?_
    refine q_region rfl rfl ?_
    refine qS 4 rfl (ok_assign · (.bool _)) ?_
    refine hr_region_end ?_
    try dsimp only [w0, w1, w2, w3]
    cases h
    exact q_ret rfl at_.at_ rfl (res1 rfl rfl) ⟨rfl, rfl⟩
  · refine q_cond_f rfl (.tmp rfl) (bfalse hc19) ?_
    refine q_skipc rfl ?_
    refine q_seq rfl ?_
    refine q_seq rfl ?_
    refine q_region rfl rfl ?_
    refine qS 9 rfl (ok_assign · (.int _ _)) ?_
    refine hr_region_end ?_
    try dsimp only [w0, w1, w2, w3]
    refine q_block rfl ?_
    refine q_loop rfl ?_
    try dsimp only [w0, w1, w2, w3]
    exact L2_snd  h
def J0 (k : Nat) (y0 : Bool) (y1 : Bool) (y5 : (Option HA)) (S : HS) : Option ((Bool) × HS) :=
  (if y1 = true then
  (letv (HS.lit S [[(.str ([100] : List UInt8))], [(.str ([35, 82] : List UInt8))]] 1) fun p13 =>
  (Option.bind (rollcalltop_said.f y5 1 ([73, 78, 86, 73, 84, 69] : List UInt8) (p13.1) (p13.2)) fun p14 =>
  J1 k y0 y1 y5 p14.2)) else
  J1 k y0 y1 y5 S)
theorem J0_snd {k : Nat}  {y0 : Bool} {y1 : Bool} {y5 : (Option HA)} {S : HS} {p : (Bool) × HS} {g2 g3 g4 g6 g7 g8 g9 g10 g11 g12 g13 g14 g15 g16 g17 g18 g19 g20 g21 g22 g23 g24 g25 g26 g27 g28 g29 g30 g31 g32 g33 g34 g35 g36 g37 g38 g39 g40 g41 g42 g43 g44 g45 g46 g47 g48 g49 g50 g51 g52 g53 g54 g55 g56 g57 g58 g59 g60 g61 g62 g63 g64 g65 g66 g67 g68 g69 g70 g71 g72 g73 g74 g75 g76 g77 g78 g79 g80 g81 g82 g83 g84 g85 g86 : HV} (h : J0 k y0 y1 y5 S = some p) : HRun Tryz.prog base W0 β0 4 none [.code c30] ⟨[(.bool y0), (.bool y1), g2, g3, g4, (.ptr y5), g6, g7, g8, g9, g10, g11, g12, g13, g14, g15, g16, g17, g18, g19, g20, g21, g22, g23, g24, g25, g26, g27, g28, g29, g30, g31, g32, g33, g34, g35, g36, g37, g38, g39, g40, g41, g42, g43, g44, g45, g46, g47, g48, g49, g50, g51, g52, g53, g54, g55, g56, g57, g58, g59, g60, g61, g62, g63, g64, g65, g66, g67, g68, g69, g70, g71, g72, g73, g74, g75, g76, g77, g78, g79, g80, g81, g82, g83, g84, g85, g86], []⟩ S (fun v S1 => v = (.bool p.1) ∧ S1 = p.2) := by
  unfold J0 at h
  refine q_seq rfl ?_
  refine q_seq rfl ?_
  refine q_region rfl rfl ?_
  refine qS 33 rfl (ok_move · (.tmp rfl)) ?_
  refine hr_region_end ?_
  try dsimp only [w0, w1, w2, w3]
  rcases ifc h with ⟨hc12, h⟩ | ⟨hc12, h⟩
  · refine q_cond_t rfl (.tmp rfl) hc12 ?_
    refine q_region rfl rfl ?_
    refine qS 34 rfl (ok_move · (.tmp rfl)) ?_
    obtain ⟨p13, hp13, h⟩ := leto h
    refine qS 35 rfl (ok_buildSlice_s (xs := [(.const (.string ⟨#[100]⟩)), (.const (.string ⟨#[35, 82]⟩))]) el30 · rfl rfl (by decide) (.cons (.str _) (.cons (.str _) Evs.nil)) rfl rfl hp13) ?_
    obtain ⟨p14, hp14, h⟩ := bindo h
    refine q_call (dst := some 36) rfl (.func _) (.cons (.tmp rfl) (.cons (.int _ _) (.cons (.str _) (.cons (.tmp rfl) Evs.nil)))) (HInv.static rollcalltop_said.at_ rollcalltop_said.body (rollcalltop_said.snd  hp14)) ?_
    rintro _ _ ⟨rfl, rfl⟩
    refine hr_region_end ?_
    try dsimp only [w0, w1, w2, w3]
    try dsimp only [w0, w1, w2, w3]
    exact J1_snd  h
  · refine q_cond_f rfl (.tmp rfl) (bfalse hc12) ?_
    refine q_skipc rfl ?_
    try dsimp only [w0, w1, w2, w3]
    exact J1_snd  h
def f (k : Nat) (x0 : Bool) (x1 : Bool) (S : HS) : Option ((Bool) × HS) :=
  (Option.bind (rollcalltop_awake.f S) fun p1 =>
  (if (!p1.1) = true then
  some (false, p1.2) else
  (Option.bind (rollcalltop_made.f 3 p1.2) fun p3 =>
  (if (!p3.1.2) = true then
  some (false, p3.2) else
  (letv (HS.lit p3.2 [[(.str ([35, 114] : List UInt8))]] 1) fun p5 =>
  (Option.bind (rollcalltop_said.f p3.1.1 1 ([74, 79, 73, 78] : List UInt8) (p5.1) (p5.2)) fun p6 =>
  (letv (HS.lit p6.2 [[(.str ([35, 114] : List UInt8))], [(.str ([43, 105] : List UInt8))]] 1) fun p7 =>
  (Option.bind (rollcalltop_said.f p3.1.1 1 ([77, 79, 68, 69] : List UInt8) (p7.1) (p7.2)) fun p8 =>
  (if x0 = true then
  (letv (HS.lit p8.2 [[(.str ([99] : List UInt8))], [(.str ([35, 114] : List UInt8))]] 1) fun p10 =>
  (Option.bind (rollcalltop_said.f p3.1.1 1 ([73, 78, 86, 73, 84, 69] : List UInt8) (p10.1) (p10.2)) fun p11 =>
  J0 k x0 x1 p3.1.1 p11.2)) else
  J0 k x0 x1 p3.1.1 p8.2)))))))))
theorem snd {k : Nat} {x0 : Bool} {x1 : Bool} {S : HS}  {p : (Bool) × HS} (h : f k x0 x1 S = some p) : HCall Tryz.prog base W0 β0 4 [(.bool x0), (.bool x1)] S (fun v S1 => v = (.bool p.1) ∧ S1 = p.2) := by
  unfold f at h
  refine HCall.of_run at_.at_ body ?_
  show HRun Tryz.prog base W0 β0 4 none [.code c0] ⟨[(.bool x0), (.bool x1), τ, τ, τ, τ, τ, τ, τ, τ, τ, τ, τ, τ, τ, τ, τ, τ, τ, τ, τ, τ, τ, τ, τ, τ, τ, τ, τ, τ, τ, τ, τ, τ, τ, τ, τ, τ, τ, τ, τ, τ, τ, τ, τ, τ, τ, τ, τ, τ, τ, τ, τ, τ, τ, τ, τ, τ, τ, τ, τ, τ, τ, τ, τ, τ, τ, τ, τ, τ, τ, τ, τ, τ, τ, τ, τ, τ, τ, τ, τ, τ, τ, τ, τ, τ, τ], []⟩ S _
  refine q_seq rfl ?_
  refine q_region rfl rfl ?_
  refine qS 4 rfl (ok_assign · (.bool _)) ?_
  refine hr_region_end ?_
  try dsimp only [w0, w1, w2, w3]
  refine q_seq rfl ?_
  refine q_seq rfl ?_
  refine q_region rfl rfl ?_
  obtain ⟨p1, hp1, h⟩ := bindo h
  refine q_call (dst := some 15) rfl (.func _) Evs.nil (HInv.static rollcalltop_awake.at_ rollcalltop_awake.body (rollcalltop_awake.snd  hp1)) ?_
  rintro _ _ ⟨rfl, rfl⟩
  refine qS 16 rfl (ok_not · (.tmp rfl)) ?_
  refine hr_region_end ?_
  try dsimp only [w0, w1, w2, w3]
  rcases ifc h with ⟨hc2, h⟩ | ⟨hc2, h⟩
  · refine q_cond_t rfl (.tmp rfl) hc2 ?_
    refine q_seq rfl ?_
    refine q_region rfl rfl ?_
    refine qS 4 rfl (ok_assign · (.bool _)) ?_
    refine hr_region_end ?_
    try dsimp only [w0, w1, w2, w3]
    cases h
    exact q_ret rfl at_.at_ rfl (res1 rfl rfl) ⟨rfl, rfl⟩
  · refine q_cond_f rfl (.tmp rfl) (bfalse hc2) ?_
    refine q_skipc rfl ?_
    refine q_seq rfl ?_
    refine q_region rfl rfl ?_
    obtain ⟨p3, hp3, h⟩ := bindo h
    refine q_call (dst := some 18) rfl (.func _) (.cons (.int _ _) Evs.nil) (HInv.static rollcalltop_made.at_ rollcalltop_made.body (rollcalltop_made.snd  hp3)) ?_
    rintro _ _ ⟨rfl, rfl⟩
    refine qS 17 rfl (ok_move · (.tmp rfl)) ?_
    refine qS 19 rfl (ok_extract · (.tmp rfl) rfl) ?_
    refine qS 20 rfl (ok_extract · (.tmp rfl) rfl) ?_
    try dsimp only [w0, w1, w2, w3]
    refine qS 5 rfl (ok_assign · (.tmp rfl)) ?_
    refine qS 6 rfl (ok_assign · (.tmp rfl)) ?_
    refine hr_region_end ?_
    try dsimp only [w0, w1, w2, w3]
    refine q_seq rfl ?_
    refine q_seq rfl ?_
    refine q_region rfl rfl ?_
    refine qS 21 rfl (ok_move · (.tmp rfl)) ?_
    refine qS 22 rfl (ok_not · (.tmp rfl)) ?_
    refine hr_region_end ?_
    try dsimp only [w0, w1, w2, w3]
    rcases ifc h with ⟨hc4, h⟩ | ⟨hc4, h⟩
    · refine q_cond_t rfl (.tmp rfl) hc4 ?_
      refine q_seq rfl ?_
      refine q_region rfl rfl ?_
      refine qS 4 rfl (ok_assign · (.bool _)) ?_
      refine hr_region_end ?_
      try dsimp only [w0, w1, w2, w3]
      cases h
      exact q_ret rfl at_.at_ rfl (res1 rfl rfl) ⟨rfl, rfl⟩
    · refine q_cond_f rfl (.tmp rfl) (bfalse hc4) ?_
      refine q_skipc rfl ?_
      refine q_seq rfl ?_
      refine q_region rfl rfl ?_
      refine qS 23 rfl (ok_move · (.tmp rfl)) ?_
      obtain ⟨p5, hp5, h⟩ := leto h
      refine qS 24 rfl (ok_buildSlice_s (xs := [(.const (.string ⟨#[35, 114]⟩))]) el30 · rfl rfl (by decide) (.cons (.str _) Evs.nil) rfl rfl hp5) ?_
      obtain ⟨p6, hp6, h⟩ := bindo h
      refine q_call (dst := some 25) rfl (.func _) (.cons (.tmp rfl) (.cons (.int _ _) (.cons (.str _) (.cons (.tmp rfl) Evs.nil)))) (HInv.static rollcalltop_said.at_ rollcalltop_said.body (rollcalltop_said.snd  hp6)) ?_
      rintro _ _ ⟨rfl, rfl⟩
      refine hr_region_end ?_
      try dsimp only [w0, w1, w2, w3]
      refine q_seq rfl ?_
      refine q_region rfl rfl ?_
      refine qS 26 rfl (ok_move · (.tmp rfl)) ?_
      obtain ⟨p7, hp7, h⟩ := leto h
      refine qS 27 rfl (ok_buildSlice_s (xs := [(.const (.string ⟨#[35, 114]⟩)), (.const (.string ⟨#[43, 105]⟩))]) el30 · rfl rfl (by decide) (.cons (.str _) (.cons (.str _) Evs.nil)) rfl rfl hp7) ?_
      obtain ⟨p8, hp8, h⟩ := bindo h
      refine q_call (dst := some 28) rfl (.func _) (.cons (.tmp rfl) (.cons (.int _ _) (.cons (.str _) (.cons (.tmp rfl) Evs.nil)))) (HInv.static rollcalltop_said.at_ rollcalltop_said.body (rollcalltop_said.snd  hp8)) ?_
      rintro _ _ ⟨rfl, rfl⟩
      refine hr_region_end ?_
      try dsimp only [w0, w1, w2, w3]
      refine q_seq rfl ?_
      refine q_seq rfl ?_
      refine q_region rfl rfl ?_
      refine qS 29 rfl (ok_move · (.tmp rfl)) ?_
      refine hr_region_end ?_
      try dsimp only [w0, w1, w2, w3]
      rcases ifc h with ⟨hc9, h⟩ | ⟨hc9, h⟩
      · refine q_cond_t rfl (.tmp rfl) hc9 ?_
        refine q_region rfl rfl ?_
        refine qS 30 rfl (ok_move · (.tmp rfl)) ?_
        obtain ⟨p10, hp10, h⟩ := leto h
        refine qS 31 rfl (ok_buildSlice_s (xs := [(.const (.string ⟨#[99]⟩)), (.const (.string ⟨#[35, 114]⟩))]) el30 · rfl rfl (by decide) (.cons (.str _) (.cons (.str _) Evs.nil)) rfl rfl hp10) ?_
        obtain ⟨p11, hp11, h⟩ := bindo h
        refine q_call (dst := some 32) rfl (.func _) (.cons (.tmp rfl) (.cons (.int _ _) (.cons (.str _) (.cons (.tmp rfl) Evs.nil)))) (HInv.static rollcalltop_said.at_ rollcalltop_said.body (rollcalltop_said.snd  hp11)) ?_
        rintro _ _ ⟨rfl, rfl⟩
        refine hr_region_end ?_
        try dsimp only [w0, w1, w2, w3]
        try dsimp only [w0, w1, w2, w3]
        exact J0_snd  h
      · refine q_cond_f rfl (.tmp rfl) (bfalse hc9) ?_
        refine q_skipc rfl ?_
        try dsimp only [w0, w1, w2, w3]
        exact J0_snd  h
end
end rollcalltop_WholeInvite
end
end Go.Proofs.YtfningkbcfhheaaGreatDoor.X
namespace Go.Proofs.YtfningkbcfhheaaGreatDoor.X
open Go.Proofs.YtfningkbcfhheaaGreatDoor.HL
set_option linter.unusedVariables false
set_option maxRecDepth 100000
theorem of_fst {α : Type} {o : Option (Bool × α)} (h : o.map (·.1) = some true) : ∃ s, o = some (true, s) := by
  cases o with
  | none => cases h
  | some p => obtain ⟨b, s⟩ := p; simp only [Option.map_some, Option.some.injEq] at h; subst h; exact ⟨s, rfl⟩
theorem inv_spec (a b : Bool) : ∃ S', rollcalltop_WholeInvite.f 1000 a b S0 = some (true, S') := by
  cases a <;> cases b <;> exact of_fst (by kernel_rfl)
theorem wholeInvite_call (W : World) (a b : Bool) : HCall Tryz.prog W.heap.size W B0 4 [.bool a, .bool b] S0 (fun v _ => v = .bool true) :=
  let ⟨_, h⟩ := inv_spec a b
  (rollcalltop_WholeInvite.snd h).mono fun _ _ h => h.1
end Go.Proofs.YtfningkbcfhheaaGreatDoor.X
