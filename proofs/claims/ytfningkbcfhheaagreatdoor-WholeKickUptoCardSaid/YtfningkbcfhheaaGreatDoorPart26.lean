/- All of them: what each call answers. Calls of a law's own function, by what was run of them. Functions of the program, each as a Lean function over the layer HL: a call answers what the Lean function answers, where it answers. The law WholeKick, plain: its own function, run at the nine inputs that differ, over what its calls answer. -/
import Derived.Test.YtfningkbcfhheaaGreatDoorWv1
import Derived.Test.YtfningkbcfhheaaGreatDoorWv2
import Derived.Test.YtfningkbcfhheaaGreatDoorWv3
import Derived.Test.YtfningkbcfhheaaGreatDoorWv4
import Derived.Test.YtfningkbcfhheaaGreatDoorWv5
import Derived.Test.YtfningkbcfhheaaGreatDoorWv6
import Derived.Test.YtfningkbcfhheaaGreatDoorWv7
import Derived.Test.YtfningkbcfhheaaGreatDoorWv8
import Derived.Test.YtfningkbcfhheaaGreatDoorWv9
import Derived.Test.YtfningkbcfhheaaGreatDoorWv10
import Derived.Test.YtfningkbcfhheaaGreatDoorPart11
import Derived.Test.YtfningkbcfhheaaGreatDoorProg
set_option linter.unusedVariables false
set_option linter.unusedSimpArgs false
namespace Go.Proofs.YtfningkbcfhheaaGreatDoor.X
open Go.Proofs.YtfningkbcfhheaaGreatDoor.HL
set_option linter.unusedVariables false
noncomputable section
def lall : List (FuncId × Seg) := l1 ++ (l2 ++ (l3 ++ (l4 ++ (l5 ++ (l6 ++ (l7 ++ (l8 ++ (l9 ++ (l10)))))))))
theorem lall_ok : ∀ q ∈ lall, SegOk Tryz.prog q.1 q.2 := (app_ok (segsB_ok Kr_ok g1) (app_ok (segsB_ok Kr_ok g2) (app_ok (segsB_ok Kr_ok g3) (app_ok (segsB_ok Kr_ok g4) (app_ok (segsB_ok Kr_ok g5) (app_ok (segsB_ok Kr_ok g6) (app_ok (segsB_ok Kr_ok g7) (app_ok (segsB_ok Kr_ok g8) (app_ok (segsB_ok Kr_ok g9) (segsB_ok Kr_ok g10))))))))))
def L8 : List Seg := sel 8 lall
theorem L8_ok : ∀ s ∈ L8, SegOk Tryz.prog 8 s := sel_ok lall_ok
def L10 : List Seg := sel 10 lall
theorem L10_ok : ∀ s ∈ L10, SegOk Tryz.prog 10 s := sel_ok lall_ok
def L11 : List Seg := sel 11 lall
theorem L11_ok : ∀ s ∈ L11, SegOk Tryz.prog 11 s := sel_ok lall_ok
def L13 : List Seg := sel 13 lall
theorem L13_ok : ∀ s ∈ L13, SegOk Tryz.prog 13 s := sel_ok lall_ok
def L14 : List Seg := sel 14 lall
theorem L14_ok : ∀ s ∈ L14, SegOk Tryz.prog 14 s := sel_ok lall_ok
def L15 : List Seg := sel 15 lall
theorem L15_ok : ∀ s ∈ L15, SegOk Tryz.prog 15 s := sel_ok lall_ok
def L17 : List Seg := sel 17 lall
theorem L17_ok : ∀ s ∈ L17, SegOk Tryz.prog 17 s := sel_ok lall_ok
def L22 : List Seg := sel 22 lall
theorem L22_ok : ∀ s ∈ L22, SegOk Tryz.prog 22 s := sel_ok lall_ok
def L25 : List Seg := sel 25 lall
theorem L25_ok : ∀ s ∈ L25, SegOk Tryz.prog 25 s := sel_ok lall_ok
def K9 : Kn := KL ((22, segC L22) :: (25, segC L25) :: Lr)
theorem K9_ok (base : Nat) (W : Env) : KnOk Tryz.prog base W K9 := KL_ok (.cons (segC_ov L22_ok) (.cons (segC_ov L25_ok) Lr_ok)) base W
def lm9 : List (FuncId × Seg) := [(9, s7)]
theorem gm9 : segsB Tryz.prog K9 lm9 = some () := by kernel_rfl
def L9 : List Seg := sel 9 lm9
theorem L9_ok : ∀ s ∈ L9, SegOk Tryz.prog 9 s := sel_ok (segsB_ok K9_ok gm9)
end
noncomputable section
namespace rollcalltop_awake
theorem at_ : FnAt Tryz.prog 8 Tryz.f8 := ⟨Tryz.func8, by kernel_rfl⟩
theorem body : Tryz.f8.body = some ((Tryz.f8.body).getD .skip) := by kernel_rfl
def f  (S : HS) : Option ((Bool) × HS) := (segH L8 [] S).bind fun p => match p.1 with | .bool a1 => some (a1, p.2) | _ => none
theorem snd {base : Nat} {W0 : Env} {β0 : Bt}  {S : HS} {p : (Bool) × HS} (h : f  S = some p) : HCall Tryz.prog base W0 β0 8 [] S (fun v S1 => v = (.bool p.1) ∧ S1 = p.2) := by
  unfold f at h
  obtain ⟨q, h1, h2⟩ := Option.bind_eq_some_iff.1 h
  split at h2
  · rename_i hq
    cases h2
    exact (segH_ok L8_ok h1).mono fun v S1 g => ⟨g.1.trans hq, g.2⟩
  · cases h2
end rollcalltop_awake
namespace rollcalltop_made
theorem at_ : FnAt Tryz.prog 9 Tryz.f9 := ⟨Tryz.func9, by kernel_rfl⟩
theorem body : Tryz.f9.body = some ((Tryz.f9.body).getD .skip) := by kernel_rfl
def f (x0 : Int) (S : HS) : Option (((Option HA) × Bool) × HS) := (segH L9 [(.int .i64 x0)] S).bind fun p => match p.1 with | .tup [.ptr a1, .bool a2] => some ((a1, a2), p.2) | _ => none
theorem snd {base : Nat} {W0 : Env} {β0 : Bt} {x0 : Int} {S : HS} {p : ((Option HA) × Bool) × HS} (h : f x0 S = some p) : HCall Tryz.prog base W0 β0 9 [(.int .i64 x0)] S (fun v S1 => v = (.tup [(.ptr p.1.1), (.bool p.1.2)]) ∧ S1 = p.2) := by
  unfold f at h
  obtain ⟨q, h1, h2⟩ := Option.bind_eq_some_iff.1 h
  split at h2
  · rename_i hq
    cases h2
    exact (segH_ok L9_ok h1).mono fun v S1 g => ⟨g.1.trans hq, g.2⟩
  · cases h2
end rollcalltop_made
namespace rollcalltop_said
theorem at_ : FnAt Tryz.prog 10 Tryz.f10 := ⟨Tryz.func10, by kernel_rfl⟩
theorem body : Tryz.f10.body = some ((Tryz.f10.body).getD .skip) := by kernel_rfl
def f (x0 : (Option HA)) (x1 : Int) (x2 : (List UInt8)) (x3 : Sl) (S : HS) : Option ((Unit) × HS) := (segH L10 [(.ptr x0), (.int .i64 x1), (.str x2), (Sl.hv x3)] S).bind fun p => match p.1 with | .tup [] => some ((), p.2) | _ => none
theorem snd {base : Nat} {W0 : Env} {β0 : Bt} {x0 : (Option HA)} {x1 : Int} {x2 : (List UInt8)} {x3 : Sl} {S : HS} {p : (Unit) × HS} (h : f x0 x1 x2 x3 S = some p) : HCall Tryz.prog base W0 β0 10 [(.ptr x0), (.int .i64 x1), (.str x2), (Sl.hv x3)] S (fun v S1 => v = (.tup []) ∧ S1 = p.2) := by
  unfold f at h
  obtain ⟨q, h1, h2⟩ := Option.bind_eq_some_iff.1 h
  split at h2
  · rename_i hq
    cases h2
    exact (segH_ok L10_ok h1).mono fun v S1 g => ⟨g.1.trans hq, g.2⟩
  · cases h2
end rollcalltop_said
namespace rollcalltop_drained
theorem at_ : FnAt Tryz.prog 11 Tryz.f11 := ⟨Tryz.func11, by kernel_rfl⟩
theorem body : Tryz.f11.body = some ((Tryz.f11.body).getD .skip) := by kernel_rfl
def f (x0 : (Option HA)) (x1 : Int) (S : HS) : Option ((Sl) × HS) := (segH L11 [(.ptr x0), (.int .i64 x1)] S).bind fun p => match p.1 with | .sl a1a a1n a1c => some ((⟨a1a, a1n, a1c⟩ : Sl), p.2) | _ => none
theorem snd {base : Nat} {W0 : Env} {β0 : Bt} {x0 : (Option HA)} {x1 : Int} {S : HS} {p : (Sl) × HS} (h : f x0 x1 S = some p) : HCall Tryz.prog base W0 β0 11 [(.ptr x0), (.int .i64 x1)] S (fun v S1 => v = (Sl.hv p.1) ∧ S1 = p.2) := by
  unfold f at h
  obtain ⟨q, h1, h2⟩ := Option.bind_eq_some_iff.1 h
  split at h2
  · rename_i hq
    cases h2
    exact (segH_ok L11_ok h1).mono fun v S1 g => ⟨g.1.trans hq, g.2⟩
  · cases h2
end rollcalltop_drained
namespace core_Core_Rooms
theorem at_ : FnAt Tryz.prog 13 Tryz.f13 := ⟨Tryz.func13, by kernel_rfl⟩
theorem body : Tryz.f13.body = some ((Tryz.f13.body).getD .skip) := by kernel_rfl
def f (x0 : (Option HA)) (S : HS) : Option (((Option HA)) × HS) := (segH L13 [(.ptr x0)] S).bind fun p => match p.1 with | .ptr a1 => some (a1, p.2) | _ => none
theorem snd {base : Nat} {W0 : Env} {β0 : Bt} {x0 : (Option HA)} {S : HS} {p : ((Option HA)) × HS} (h : f x0 S = some p) : HCall Tryz.prog base W0 β0 13 [(.ptr x0)] S (fun v S1 => v = (.ptr p.1) ∧ S1 = p.2) := by
  unfold f at h
  obtain ⟨q, h1, h2⟩ := Option.bind_eq_some_iff.1 h
  split at h2
  · rename_i hq
    cases h2
    exact (segH_ok L13_ok h1).mono fun v S1 g => ⟨g.1.trans hq, g.2⟩
  · cases h2
end core_Core_Rooms
namespace rooms_Rooms_Get
theorem at_ : FnAt Tryz.prog 14 Tryz.f14 := ⟨Tryz.func14, by kernel_rfl⟩
theorem body : Tryz.f14.body = some ((Tryz.f14.body).getD .skip) := by kernel_rfl
def f (x0 : (Option HA)) (x1 : (List UInt8)) (S : HS) : Option (((Option HA) × Bool) × HS) := (segH L14 [(.ptr x0), (.str x1)] S).bind fun p => match p.1 with | .tup [.ptr a1, .bool a2] => some ((a1, a2), p.2) | _ => none
theorem snd {base : Nat} {W0 : Env} {β0 : Bt} {x0 : (Option HA)} {x1 : (List UInt8)} {S : HS} {p : ((Option HA) × Bool) × HS} (h : f x0 x1 S = some p) : HCall Tryz.prog base W0 β0 14 [(.ptr x0), (.str x1)] S (fun v S1 => v = (.tup [(.ptr p.1.1), (.bool p.1.2)]) ∧ S1 = p.2) := by
  unfold f at h
  obtain ⟨q, h1, h2⟩ := Option.bind_eq_some_iff.1 h
  split at h2
  · rename_i hq
    cases h2
    exact (segH_ok L14_ok h1).mono fun v S1 g => ⟨g.1.trans hq, g.2⟩
  · cases h2
end rooms_Rooms_Get
namespace room_Room_Member
theorem at_ : FnAt Tryz.prog 15 Tryz.f15 := ⟨Tryz.func15, by kernel_rfl⟩
theorem body : Tryz.f15.body = some ((Tryz.f15.body).getD .skip) := by kernel_rfl
def f (x0 : (Option HA)) (x1 : Int) (S : HS) : Option ((Int × Bool × Bool × Bool) × HS) := (segH L15 [(.ptr x0), (.int .i64 x1)] S).bind fun p => match p.1 with | .tup [.agg [.int .i64 a2, .bool a3, .bool a4], .bool a5] => some ((a2, a3, a4, a5), p.2) | _ => none
theorem snd {base : Nat} {W0 : Env} {β0 : Bt} {x0 : (Option HA)} {x1 : Int} {S : HS} {p : (Int × Bool × Bool × Bool) × HS} (h : f x0 x1 S = some p) : HCall Tryz.prog base W0 β0 15 [(.ptr x0), (.int .i64 x1)] S (fun v S1 => v = (.tup [(.agg [(.int .i64 p.1.1), (.bool p.1.2.1), (.bool p.1.2.2.1)]), (.bool p.1.2.2.2)]) ∧ S1 = p.2) := by
  unfold f at h
  obtain ⟨q, h1, h2⟩ := Option.bind_eq_some_iff.1 h
  split at h2
  · rename_i hq
    cases h2
    exact (segH_ok L15_ok h1).mono fun v S1 g => ⟨g.1.trans hq, g.2⟩
  · cases h2
end room_Room_Member
namespace core_Core_Drain
theorem at_ : FnAt Tryz.prog 17 Tryz.f17 := ⟨Tryz.func17, by kernel_rfl⟩
theorem body : Tryz.f17.body = some ((Tryz.f17.body).getD .skip) := by kernel_rfl
def f (x0 : (Option HA)) (x1 : Int) (x2 : Int) (S : HS) : Option ((Sl) × HS) := (segH L17 [(.ptr x0), (.int .i64 x1), (.int .i64 x2)] S).bind fun p => match p.1 with | .sl a1a a1n a1c => some ((⟨a1a, a1n, a1c⟩ : Sl), p.2) | _ => none
theorem snd {base : Nat} {W0 : Env} {β0 : Bt} {x0 : (Option HA)} {x1 : Int} {x2 : Int} {S : HS} {p : (Sl) × HS} (h : f x0 x1 x2 S = some p) : HCall Tryz.prog base W0 β0 17 [(.ptr x0), (.int .i64 x1), (.int .i64 x2)] S (fun v S1 => v = (Sl.hv p.1) ∧ S1 = p.2) := by
  unfold f at h
  obtain ⟨q, h1, h2⟩ := Option.bind_eq_some_iff.1 h
  split at h2
  · rename_i hq
    cases h2
    exact (segH_ok L17_ok h1).mono fun v S1 g => ⟨g.1.trans hq, g.2⟩
  · cases h2
end core_Core_Drain
end
end Go.Proofs.YtfningkbcfhheaaGreatDoor.X
namespace Go.Proofs.YtfningkbcfhheaaGreatDoor.X
open Go.Proofs.YtfningkbcfhheaaGreatDoor.HL
set_option linter.unusedVariables false
set_option linter.unusedSimpArgs false
set_option maxRecDepth 20000
set_option maxHeartbeats 4000000
noncomputable section
theorem fi41_0 : fieldInfo Tryz.prog 41 0 = some (0, 39, 1) := by kernel_rfl
theorem sc39 : Scalar Tryz.prog 39 := ⟨(.pointer 78), by kernel_rfl, trivial⟩
theorem zi44 : (Tryz.prog.info? 44).map (·.zero) = some (some (.agg #[(.int .i64 0), (.bool false), (.bool false)])) := by kernel_rfl
theorem zr44 : ∀ β, VRels β [(.int .i64 0), (.bool false), (.bool false)] (Value.cells (.agg #[(.int .i64 0), (.bool false), (.bool false)])) := fun β => VRels.cons (.int _ _) (VRels.cons (.bool _) (VRels.cons (.bool _) (VRels.nil β)))
theorem tu27 : Tryz.prog.underlying 27 = some (.slice 32) := by kernel_rfl
theorem sz32 : ∃ q, Tryz.prog.info? 32 = some q ∧ q.size = 4 := size_mk' (by kernel_rfl)
theorem fi32_2 : fieldInfo Tryz.prog 32 2 = some (2, 9, 1) := by kernel_rfl
theorem tu4 : Tryz.prog.underlying 4 = some .bool := by kernel_rfl
namespace rollcalltop_WholeKick
theorem at_ : FnAt Tryz.prog 5 Tryz.f5 := ⟨Tryz.func5, by kernel_rfl⟩
noncomputable def d0 := (Tryz.f5.body).getD .skip
noncomputable def r1 := kR (kA d0)
noncomputable def r4 := kR (kA (kA (kB d0)))
noncomputable def r7 := kR (kA (kA (kB (kA (kB d0)))))
noncomputable def r11 := kR (kA (kB (kB d0)))
noncomputable def d12 := kB (kB (kB d0))
noncomputable def r14 := kR (kA (kA d12))
noncomputable def r17 := kR (kA (kA (kB (kA d12))))
noncomputable def r22 := kR (kA (kA (kB d12)))
noncomputable def d25 := kA (kA (kB (kA (kB d12))))
noncomputable def r27 := kR (kA (kA d25))
noncomputable def r33 := kR (kA (kA (kB d25)))
noncomputable def r34 := kR (kB (kB d25))
noncomputable def r36 := kR (kA (kB (kB d12)))
noncomputable def d37 := kB (kB (kB d12))
noncomputable def r39 := kR (kA (kA d37))
noncomputable def r44 := kR (kA (kA (kA (kA (kB (kA d37))))))
noncomputable def d48 := kB (kA (kA (kB (kA d37))))
noncomputable def r50 := kR (kA (kA d48))
noncomputable def r51 := kR (kB d48)
noncomputable def r53 := kR (kA (kB d37))
noncomputable def r55 := kR (kA (kB (kB d37)))
noncomputable def d56 := kB (kB (kB d37))
noncomputable def r58 := kR (kA (kA d56))
noncomputable def r61 := kR (kA (kA (kB (kA d56))))
noncomputable def r65 := kR (kA (kB d56))
noncomputable def d67 := kA (kB (kB d56))
noncomputable def r68 := kR (kA d67)
noncomputable def d71 := kA (kA (kB d67))
noncomputable def r73 := kR (kA (kA d71))
noncomputable def d79 := kA (kA (kB d71))
noncomputable def r80 := kR (kA d79)
noncomputable def r82 := kR (kA (kB d79))
noncomputable def d84 := kA (kB (kB d79))
noncomputable def r85 := kR (kA d84)
noncomputable def d88 := kA (kA (kB d84))
noncomputable def r90 := kR (kA (kA d88))
noncomputable def r97 := kR (kA (kA (kA (kB d88))))
noncomputable def r99 := kR (kA (kB (kA (kA (kB d88)))))
noncomputable def r101 := kR (kB (kB d88))
noncomputable def d102 := kB (kB (kB d79))
noncomputable def r103 := kR (kA d102)
noncomputable def r106 := kR (kA (kA (kB d102)))
noncomputable def r108 := kR (kA (kB (kA (kB d102))))
noncomputable def r111 := kR (kA (kB (kB d102)))
noncomputable def r114 := kR (kA (kA (kB (kB (kB d102)))))
noncomputable def r117 := kR (kB (kB d71))
noncomputable def r119 := kR (kA (kB (kB (kB d56))))
noncomputable def c118 : Code := .seq (.region 35 r119 false) .ret
noncomputable def c117 : Code := .region 22 r117 false
noncomputable def c110 : Code := .seq (.region 33 r111 false) (.cond (.tmp 113) (.seq (.region 34 r114 false) .ret) .skip)
noncomputable def c107 : Code := .cond (.tmp 110) (.region 32 r108 false) .skip
noncomputable def c102 : Code := .seq (.region 30 r103 false) (.seq (.seq (.region 31 r106 false) c107) c110)
noncomputable def c101 : Code := .region 27 r101 false
noncomputable def c88 : Code := .seq (.seq (.region 26 r90 false) (.cond (.tmp 90) .skip (.exit 6))) (.seq (.block 7 (.seq (.region 28 r97 false) (.cond (.tmp 98) (.region 29 r99 false) .skip))) c101)
noncomputable def c71 : Code := .seq (.seq (.region 21 r73 false) (.cond (.tmp 81) .skip (.exit 4))) (.seq (.block 5 (.seq (.region 23 r80 false) (.seq (.region 24 r82 false) (.seq (.seq (.region 25 r85 false) (.block 6 (.loop c88))) c102)))) c117)
noncomputable def c52 : Code := .seq (.region 15 r53 false) (.seq (.region 16 r55 false) (.seq (.seq (.region 17 r58 false) (.cond (.tmp 73) (.seq (.region 18 r61 false) .ret) .skip)) (.seq (.region 19 r65 false) (.seq (.seq (.region 20 r68 false) (.block 4 (.loop c71))) c118))))
noncomputable def c42 : Code := .seq (.seq (.region 12 r44 false) (.cond (.tmp 45) .skip (.exit 2))) (.seq (.block 3 (.region 14 r50 false)) (.region 13 r51 false))
noncomputable def c35 : Code := .seq (.region 10 r36 false) (.seq (.seq (.region 11 r39 false) (.block 2 (.loop c42))) c52)
noncomputable def c25 : Code := .seq (.seq (.region 7 r27 false) (.cond (.tmp 29) .skip (.exit 0))) (.seq (.block 1 (.region 9 r33 false)) (.region 8 r34 false))
noncomputable def c0 : Code := .seq (.region 0 r1 false) (.seq (.seq (.region 1 r4 false) (.cond (.tmp 21) (.seq (.region 2 r7 false) .ret) .skip)) (.seq (.region 3 r11 false) (.seq (.seq (.region 4 r14 false) (.cond (.tmp 27) (.seq (.region 5 r17 false) .ret) .skip)) (.seq (.seq (.region 6 r22 false) (.block 0 (.loop c25))) c35))))
theorem body : Tryz.f5.body = some c0 := by kernel_rfl
section
variable {base : Nat} {W0 : Env} {β0 : Bt}
def J4 (k : Nat) (rec0 : (Option HA) → Int → Bool → Int → Int → Sl → Int → HS → Option ((Bool) × HS)) (rec1 : (Option HA) → Int → Bool → Int → HS → Option ((Bool) × HS)) (y5 : (Option HA)) (y8 : Int) (y14 : Bool) (y15 : Int) (y16 : Int) (y17 : Sl) (y18 : Int) (S : HS) : Option ((Bool) × HS) :=
  rec0 y5 y8 y14 y15 y16 y17 (w64 (y18 + 1)) S
theorem J4_snd {k : Nat} {rec0 : (Option HA) → Int → Bool → Int → Int → Sl → Int → HS → Option ((Bool) × HS)} {rec1 : (Option HA) → Int → Bool → Int → HS → Option ((Bool) × HS)} (hrec0 : ∀ ⦃y5 : (Option HA)⦄ ⦃y8 : Int⦄ ⦃y14 : Bool⦄ ⦃y15 : Int⦄ ⦃y16 : Int⦄ ⦃y17 : Sl⦄ ⦃y18 : Int⦄ ⦃S : HS⦄ ⦃p : (Bool) × HS⦄ ⦃g0 g1 g2 g3 g4 g6 g7 g9 g10 g11 g12 g13 g19 g20 g21 g22 g23 g24 g25 g26 g27 g28 g29 g30 g31 g32 g33 g34 g35 g36 g37 g38 g39 g40 g41 g42 g43 g44 g45 g46 g47 g48 g49 g50 g51 g52 g53 g54 g55 g56 g57 g58 g59 g60 g61 g62 g63 g64 g65 g66 g67 g68 g69 g70 g71 g72 g73 g74 g75 g76 g77 g78 g79 g80 g81 g82 g83 g84 g85 g86 g87 g88 g89 g90 g91 g92 g93 g94 g95 g96 g97 g98 g99 g100 g101 g102 g103 g104 g105 g106 g107 g108 g109 g110 g111 g112 g113 g114 g115 g116 g117 : HV⦄, rec0 y5 y8 y14 y15 y16 y17 y18 S = some p → HRun Tryz.prog base W0 β0 5 none [.inLoop c88, .inBlock 6, .code c102, .inBlock 5, .code c117, .inLoop c71, .inBlock 4, .code c118] ⟨[g0, g1, g2, g3, g4, (.ptr y5), g6, g7, (.int .i64 y8), g9, g10, g11, g12, g13, (.bool y14), (.int .i64 y15), (.int .i64 y16), (Sl.hv y17), (.int .i64 y18), g19, g20, g21, g22, g23, g24, g25, g26, g27, g28, g29, g30, g31, g32, g33, g34, g35, g36, g37, g38, g39, g40, g41, g42, g43, g44, g45, g46, g47, g48, g49, g50, g51, g52, g53, g54, g55, g56, g57, g58, g59, g60, g61, g62, g63, g64, g65, g66, g67, g68, g69, g70, g71, g72, g73, g74, g75, g76, g77, g78, g79, g80, g81, g82, g83, g84, g85, g86, g87, g88, g89, g90, g91, g92, g93, g94, g95, g96, g97, g98, g99, g100, g101, g102, g103, g104, g105, g106, g107, g108, g109, g110, g111, g112, g113, g114, g115, g116, g117], []⟩ S (fun v S1 => v = (.bool p.1) ∧ S1 = p.2)) (hrec1 : ∀ ⦃y5 : (Option HA)⦄ ⦃y8 : Int⦄ ⦃y14 : Bool⦄ ⦃y15 : Int⦄ ⦃S : HS⦄ ⦃p : (Bool) × HS⦄ ⦃g0 g1 g2 g3 g4 g6 g7 g9 g10 g11 g12 g13 g16 g17 g18 g19 g20 g21 g22 g23 g24 g25 g26 g27 g28 g29 g30 g31 g32 g33 g34 g35 g36 g37 g38 g39 g40 g41 g42 g43 g44 g45 g46 g47 g48 g49 g50 g51 g52 g53 g54 g55 g56 g57 g58 g59 g60 g61 g62 g63 g64 g65 g66 g67 g68 g69 g70 g71 g72 g73 g74 g75 g76 g77 g78 g79 g80 g81 g82 g83 g84 g85 g86 g87 g88 g89 g90 g91 g92 g93 g94 g95 g96 g97 g98 g99 g100 g101 g102 g103 g104 g105 g106 g107 g108 g109 g110 g111 g112 g113 g114 g115 g116 g117 : HV⦄, rec1 y5 y8 y14 y15 S = some p → HRun Tryz.prog base W0 β0 5 none [.inLoop c71, .inBlock 4, .code c118] ⟨[g0, g1, g2, g3, g4, (.ptr y5), g6, g7, (.int .i64 y8), g9, g10, g11, g12, g13, (.bool y14), (.int .i64 y15), g16, g17, g18, g19, g20, g21, g22, g23, g24, g25, g26, g27, g28, g29, g30, g31, g32, g33, g34, g35, g36, g37, g38, g39, g40, g41, g42, g43, g44, g45, g46, g47, g48, g49, g50, g51, g52, g53, g54, g55, g56, g57, g58, g59, g60, g61, g62, g63, g64, g65, g66, g67, g68, g69, g70, g71, g72, g73, g74, g75, g76, g77, g78, g79, g80, g81, g82, g83, g84, g85, g86, g87, g88, g89, g90, g91, g92, g93, g94, g95, g96, g97, g98, g99, g100, g101, g102, g103, g104, g105, g106, g107, g108, g109, g110, g111, g112, g113, g114, g115, g116, g117], []⟩ S (fun v S1 => v = (.bool p.1) ∧ S1 = p.2)) {y5 : (Option HA)} {y8 : Int} {y14 : Bool} {y15 : Int} {y16 : Int} {y17 : Sl} {y18 : Int} {S : HS} {p : (Bool) × HS} {g0 g1 g2 g3 g4 g6 g7 g9 g10 g11 g12 g13 g19 g20 g21 g22 g23 g24 g25 g26 g27 g28 g29 g30 g31 g32 g33 g34 g35 g36 g37 g38 g39 g40 g41 g42 g43 g44 g45 g46 g47 g48 g49 g50 g51 g52 g53 g54 g55 g56 g57 g58 g59 g60 g61 g62 g63 g64 g65 g66 g67 g68 g69 g70 g71 g72 g73 g74 g75 g76 g77 g78 g79 g80 g81 g82 g83 g84 g85 g86 g87 g88 g89 g90 g91 g92 g93 g94 g95 g96 g97 g98 g99 g100 g101 g102 g103 g104 g105 g106 g107 g108 g109 g110 g111 g112 g113 g114 g115 g116 g117 : HV} (h : J4 k rec0 rec1 y5 y8 y14 y15 y16 y17 y18 S = some p) : HRun Tryz.prog base W0 β0 5 none [.code c101, .inLoop c88, .inBlock 6, .code c102, .inBlock 5, .code c117, .inLoop c71, .inBlock 4, .code c118] ⟨[g0, g1, g2, g3, g4, (.ptr y5), g6, g7, (.int .i64 y8), g9, g10, g11, g12, g13, (.bool y14), (.int .i64 y15), (.int .i64 y16), (Sl.hv y17), (.int .i64 y18), g19, g20, g21, g22, g23, g24, g25, g26, g27, g28, g29, g30, g31, g32, g33, g34, g35, g36, g37, g38, g39, g40, g41, g42, g43, g44, g45, g46, g47, g48, g49, g50, g51, g52, g53, g54, g55, g56, g57, g58, g59, g60, g61, g62, g63, g64, g65, g66, g67, g68, g69, g70, g71, g72, g73, g74, g75, g76, g77, g78, g79, g80, g81, g82, g83, g84, g85, g86, g87, g88, g89, g90, g91, g92, g93, g94, g95, g96, g97, g98, g99, g100, g101, g102, g103, g104, g105, g106, g107, g108, g109, g110, g111, g112, g113, g114, g115, g116, g117], []⟩ S (fun v S1 => v = (.bool p.1) ∧ S1 = p.2) := by
  unfold J4 at h
  refine q_region rfl rfl ?_
  refine qS 91 rfl (ok_move · (.tmp rfl)) ?_
  refine qS 92 rfl (ok_ibin · (.tmp rfl) (.int _ _) rfl) ?_
  refine qS 18 rfl (ok_assign · (.tmp rfl)) ?_
  refine hr_region_end ?_
  try dsimp only [w0, w1, w2, w3]
  try dsimp only [w0, w1, w2, w3]
  exact hrec0 h
def J7 (k : Nat) (rec0 : (Option HA) → Int → Bool → Int → HS → Option ((Bool) × HS)) (y5 : (Option HA)) (y8 : Int) (y14 : Bool) (y15 : Int) (y16 : Int) (y19 : Int) (S : HS) : Option ((Bool) × HS) :=
  (if (!decide (y16 = y19)) = true then
  some (false, S) else
  rec0 y5 y8 y14 (w64 (y15 + 1)) S)
theorem J7_snd {k : Nat} {rec0 : (Option HA) → Int → Bool → Int → HS → Option ((Bool) × HS)} (hrec0 : ∀ ⦃y5 : (Option HA)⦄ ⦃y8 : Int⦄ ⦃y14 : Bool⦄ ⦃y15 : Int⦄ ⦃S : HS⦄ ⦃p : (Bool) × HS⦄ ⦃g0 g1 g2 g3 g4 g6 g7 g9 g10 g11 g12 g13 g16 g17 g18 g19 g20 g21 g22 g23 g24 g25 g26 g27 g28 g29 g30 g31 g32 g33 g34 g35 g36 g37 g38 g39 g40 g41 g42 g43 g44 g45 g46 g47 g48 g49 g50 g51 g52 g53 g54 g55 g56 g57 g58 g59 g60 g61 g62 g63 g64 g65 g66 g67 g68 g69 g70 g71 g72 g73 g74 g75 g76 g77 g78 g79 g80 g81 g82 g83 g84 g85 g86 g87 g88 g89 g90 g91 g92 g93 g94 g95 g96 g97 g98 g99 g100 g101 g102 g103 g104 g105 g106 g107 g108 g109 g110 g111 g112 g113 g114 g115 g116 g117 : HV⦄, rec0 y5 y8 y14 y15 S = some p → HRun Tryz.prog base W0 β0 5 none [.inLoop c71, .inBlock 4, .code c118] ⟨[g0, g1, g2, g3, g4, (.ptr y5), g6, g7, (.int .i64 y8), g9, g10, g11, g12, g13, (.bool y14), (.int .i64 y15), g16, g17, g18, g19, g20, g21, g22, g23, g24, g25, g26, g27, g28, g29, g30, g31, g32, g33, g34, g35, g36, g37, g38, g39, g40, g41, g42, g43, g44, g45, g46, g47, g48, g49, g50, g51, g52, g53, g54, g55, g56, g57, g58, g59, g60, g61, g62, g63, g64, g65, g66, g67, g68, g69, g70, g71, g72, g73, g74, g75, g76, g77, g78, g79, g80, g81, g82, g83, g84, g85, g86, g87, g88, g89, g90, g91, g92, g93, g94, g95, g96, g97, g98, g99, g100, g101, g102, g103, g104, g105, g106, g107, g108, g109, g110, g111, g112, g113, g114, g115, g116, g117], []⟩ S (fun v S1 => v = (.bool p.1) ∧ S1 = p.2)) {y5 : (Option HA)} {y8 : Int} {y14 : Bool} {y15 : Int} {y16 : Int} {y19 : Int} {S : HS} {p : (Bool) × HS} {g0 g1 g2 g3 g4 g6 g7 g9 g10 g11 g12 g13 g17 g18 g20 g21 g22 g23 g24 g25 g26 g27 g28 g29 g30 g31 g32 g33 g34 g35 g36 g37 g38 g39 g40 g41 g42 g43 g44 g45 g46 g47 g48 g49 g50 g51 g52 g53 g54 g55 g56 g57 g58 g59 g60 g61 g62 g63 g64 g65 g66 g67 g68 g69 g70 g71 g72 g73 g74 g75 g76 g77 g78 g79 g80 g81 g82 g83 g84 g85 g86 g87 g88 g89 g90 g91 g92 g93 g94 g95 g96 g97 g98 g99 g100 g101 g102 g103 g104 g105 g106 g107 g108 g109 g110 g111 g112 g113 g114 g115 g116 g117 : HV} (h : J7 k rec0 y5 y8 y14 y15 y16 y19 S = some p) : HRun Tryz.prog base W0 β0 5 none [.code c110, .inBlock 5, .code c117, .inLoop c71, .inBlock 4, .code c118] ⟨[g0, g1, g2, g3, g4, (.ptr y5), g6, g7, (.int .i64 y8), g9, g10, g11, g12, g13, (.bool y14), (.int .i64 y15), (.int .i64 y16), g17, g18, (.int .i64 y19), g20, g21, g22, g23, g24, g25, g26, g27, g28, g29, g30, g31, g32, g33, g34, g35, g36, g37, g38, g39, g40, g41, g42, g43, g44, g45, g46, g47, g48, g49, g50, g51, g52, g53, g54, g55, g56, g57, g58, g59, g60, g61, g62, g63, g64, g65, g66, g67, g68, g69, g70, g71, g72, g73, g74, g75, g76, g77, g78, g79, g80, g81, g82, g83, g84, g85, g86, g87, g88, g89, g90, g91, g92, g93, g94, g95, g96, g97, g98, g99, g100, g101, g102, g103, g104, g105, g106, g107, g108, g109, g110, g111, g112, g113, g114, g115, g116, g117], []⟩ S (fun v S1 => v = (.bool p.1) ∧ S1 = p.2) := by
  unfold J7 at h
  refine q_seq rfl ?_
  refine q_region rfl rfl ?_
  refine qS 111 rfl (ok_move · (.tmp rfl)) ?_
  refine qS 112 rfl (ok_move · (.tmp rfl)) ?_
  refine qS 113 rfl (ok_ibin · (.tmp rfl) (.tmp rfl) rfl) ?_
  refine hr_region_end ?_
  try dsimp only [w0, w1, w2, w3]
  rcases ifc h with ⟨hc33, h⟩ | ⟨hc33, h⟩
  · refine q_cond_t rfl (.tmp rfl) hc33 ?_
    refine q_seq rfl ?_
    refine q_region rfl rfl ?_
    refine qS 4 rfl (ok_assign · (.bool _)) ?_
    refine hr_region_end ?_
    try dsimp only [w0, w1, w2, w3]
    cases h
    exact q_ret rfl at_.at_ rfl (res1 rfl rfl) ⟨rfl, rfl⟩
  · refine q_cond_f rfl (.tmp rfl) (bfalse hc33) ?_
    refine q_skipc rfl ?_
    refine hr_inBlock ?_
    refine q_region rfl rfl ?_
    refine qS 82 rfl (ok_move · (.tmp rfl)) ?_
    refine qS 83 rfl (ok_ibin · (.tmp rfl) (.int _ _) rfl) ?_
    refine qS 15 rfl (ok_assign · (.tmp rfl)) ?_
    refine hr_region_end ?_
    try dsimp only [w0, w1, w2, w3]
    try dsimp only [w0, w1, w2, w3]
    exact hrec0 h
def J6 (k : Nat) (rec0 : (Option HA) → Int → Bool → Int → HS → Option ((Bool) × HS)) (y5 : (Option HA)) (y8 : Int) (y14 : Bool) (y15 : Int) (y16 : Int) (y19 : Int) (y110 : Bool) (S : HS) : Option ((Bool) × HS) :=
  (if y110 = true then
  J7 k rec0 y5 y8 y14 y15 y16 1 S else
  J7 k rec0 y5 y8 y14 y15 y16 y19 S)
theorem J6_snd {k : Nat} {rec0 : (Option HA) → Int → Bool → Int → HS → Option ((Bool) × HS)} (hrec0 : ∀ ⦃y5 : (Option HA)⦄ ⦃y8 : Int⦄ ⦃y14 : Bool⦄ ⦃y15 : Int⦄ ⦃S : HS⦄ ⦃p : (Bool) × HS⦄ ⦃g0 g1 g2 g3 g4 g6 g7 g9 g10 g11 g12 g13 g16 g17 g18 g19 g20 g21 g22 g23 g24 g25 g26 g27 g28 g29 g30 g31 g32 g33 g34 g35 g36 g37 g38 g39 g40 g41 g42 g43 g44 g45 g46 g47 g48 g49 g50 g51 g52 g53 g54 g55 g56 g57 g58 g59 g60 g61 g62 g63 g64 g65 g66 g67 g68 g69 g70 g71 g72 g73 g74 g75 g76 g77 g78 g79 g80 g81 g82 g83 g84 g85 g86 g87 g88 g89 g90 g91 g92 g93 g94 g95 g96 g97 g98 g99 g100 g101 g102 g103 g104 g105 g106 g107 g108 g109 g110 g111 g112 g113 g114 g115 g116 g117 : HV⦄, rec0 y5 y8 y14 y15 S = some p → HRun Tryz.prog base W0 β0 5 none [.inLoop c71, .inBlock 4, .code c118] ⟨[g0, g1, g2, g3, g4, (.ptr y5), g6, g7, (.int .i64 y8), g9, g10, g11, g12, g13, (.bool y14), (.int .i64 y15), g16, g17, g18, g19, g20, g21, g22, g23, g24, g25, g26, g27, g28, g29, g30, g31, g32, g33, g34, g35, g36, g37, g38, g39, g40, g41, g42, g43, g44, g45, g46, g47, g48, g49, g50, g51, g52, g53, g54, g55, g56, g57, g58, g59, g60, g61, g62, g63, g64, g65, g66, g67, g68, g69, g70, g71, g72, g73, g74, g75, g76, g77, g78, g79, g80, g81, g82, g83, g84, g85, g86, g87, g88, g89, g90, g91, g92, g93, g94, g95, g96, g97, g98, g99, g100, g101, g102, g103, g104, g105, g106, g107, g108, g109, g110, g111, g112, g113, g114, g115, g116, g117], []⟩ S (fun v S1 => v = (.bool p.1) ∧ S1 = p.2)) {y5 : (Option HA)} {y8 : Int} {y14 : Bool} {y15 : Int} {y16 : Int} {y19 : Int} {y110 : Bool} {S : HS} {p : (Bool) × HS} {g0 g1 g2 g3 g4 g6 g7 g9 g10 g11 g12 g13 g17 g18 g20 g21 g22 g23 g24 g25 g26 g27 g28 g29 g30 g31 g32 g33 g34 g35 g36 g37 g38 g39 g40 g41 g42 g43 g44 g45 g46 g47 g48 g49 g50 g51 g52 g53 g54 g55 g56 g57 g58 g59 g60 g61 g62 g63 g64 g65 g66 g67 g68 g69 g70 g71 g72 g73 g74 g75 g76 g77 g78 g79 g80 g81 g82 g83 g84 g85 g86 g87 g88 g89 g90 g91 g92 g93 g94 g95 g96 g97 g98 g99 g100 g101 g102 g103 g104 g105 g106 g107 g108 g109 g111 g112 g113 g114 g115 g116 g117 : HV} (h : J6 k rec0 y5 y8 y14 y15 y16 y19 y110 S = some p) : HRun Tryz.prog base W0 β0 5 none [.code c107, .code c110, .inBlock 5, .code c117, .inLoop c71, .inBlock 4, .code c118] ⟨[g0, g1, g2, g3, g4, (.ptr y5), g6, g7, (.int .i64 y8), g9, g10, g11, g12, g13, (.bool y14), (.int .i64 y15), (.int .i64 y16), g17, g18, (.int .i64 y19), g20, g21, g22, g23, g24, g25, g26, g27, g28, g29, g30, g31, g32, g33, g34, g35, g36, g37, g38, g39, g40, g41, g42, g43, g44, g45, g46, g47, g48, g49, g50, g51, g52, g53, g54, g55, g56, g57, g58, g59, g60, g61, g62, g63, g64, g65, g66, g67, g68, g69, g70, g71, g72, g73, g74, g75, g76, g77, g78, g79, g80, g81, g82, g83, g84, g85, g86, g87, g88, g89, g90, g91, g92, g93, g94, g95, g96, g97, g98, g99, g100, g101, g102, g103, g104, g105, g106, g107, g108, g109, (.bool y110), g111, g112, g113, g114, g115, g116, g117], []⟩ S (fun v S1 => v = (.bool p.1) ∧ S1 = p.2) := by
  unfold J6 at h
  rcases ifc h with ⟨hc32, h⟩ | ⟨hc32, h⟩
  · refine q_cond_t rfl (.tmp rfl) hc32 ?_
    refine q_region rfl rfl ?_
    refine qS 19 rfl (ok_assign · (.int _ _)) ?_
    refine hr_region_end ?_
    try dsimp only [w0, w1, w2, w3]
    try dsimp only [w0, w1, w2, w3]
    exact J7_snd hrec0 h
  · refine q_cond_f rfl (.tmp rfl) (bfalse hc32) ?_
    refine q_skipc rfl ?_
    try dsimp only [w0, w1, w2, w3]
    exact J7_snd hrec0 h
def J5 (k : Nat) (rec0 : (Option HA) → Int → Bool → Int → HS → Option ((Bool) × HS)) (y5 : (Option HA)) (y8 : Int) (y14 : Bool) (y15 : Int) (y16 : Int) (y19 : Int) (y106 : Bool) (S : HS) : Option ((Bool) × HS) :=
  (if y106 = true then
  J6 k rec0 y5 y8 y14 y15 y16 y19 (decide (y15 ≤ 3)) S else
  J6 k rec0 y5 y8 y14 y15 y16 y19 false S)
theorem J5_snd {k : Nat} {rec0 : (Option HA) → Int → Bool → Int → HS → Option ((Bool) × HS)} (hrec0 : ∀ ⦃y5 : (Option HA)⦄ ⦃y8 : Int⦄ ⦃y14 : Bool⦄ ⦃y15 : Int⦄ ⦃S : HS⦄ ⦃p : (Bool) × HS⦄ ⦃g0 g1 g2 g3 g4 g6 g7 g9 g10 g11 g12 g13 g16 g17 g18 g19 g20 g21 g22 g23 g24 g25 g26 g27 g28 g29 g30 g31 g32 g33 g34 g35 g36 g37 g38 g39 g40 g41 g42 g43 g44 g45 g46 g47 g48 g49 g50 g51 g52 g53 g54 g55 g56 g57 g58 g59 g60 g61 g62 g63 g64 g65 g66 g67 g68 g69 g70 g71 g72 g73 g74 g75 g76 g77 g78 g79 g80 g81 g82 g83 g84 g85 g86 g87 g88 g89 g90 g91 g92 g93 g94 g95 g96 g97 g98 g99 g100 g101 g102 g103 g104 g105 g106 g107 g108 g109 g110 g111 g112 g113 g114 g115 g116 g117 : HV⦄, rec0 y5 y8 y14 y15 S = some p → HRun Tryz.prog base W0 β0 5 none [.inLoop c71, .inBlock 4, .code c118] ⟨[g0, g1, g2, g3, g4, (.ptr y5), g6, g7, (.int .i64 y8), g9, g10, g11, g12, g13, (.bool y14), (.int .i64 y15), g16, g17, g18, g19, g20, g21, g22, g23, g24, g25, g26, g27, g28, g29, g30, g31, g32, g33, g34, g35, g36, g37, g38, g39, g40, g41, g42, g43, g44, g45, g46, g47, g48, g49, g50, g51, g52, g53, g54, g55, g56, g57, g58, g59, g60, g61, g62, g63, g64, g65, g66, g67, g68, g69, g70, g71, g72, g73, g74, g75, g76, g77, g78, g79, g80, g81, g82, g83, g84, g85, g86, g87, g88, g89, g90, g91, g92, g93, g94, g95, g96, g97, g98, g99, g100, g101, g102, g103, g104, g105, g106, g107, g108, g109, g110, g111, g112, g113, g114, g115, g116, g117], []⟩ S (fun v S1 => v = (.bool p.1) ∧ S1 = p.2)) {y5 : (Option HA)} {y8 : Int} {y14 : Bool} {y15 : Int} {y16 : Int} {y19 : Int} {y106 : Bool} {S : HS} {p : (Bool) × HS} {g0 g1 g2 g3 g4 g6 g7 g9 g10 g11 g12 g13 g17 g18 g20 g21 g22 g23 g24 g25 g26 g27 g28 g29 g30 g31 g32 g33 g34 g35 g36 g37 g38 g39 g40 g41 g42 g43 g44 g45 g46 g47 g48 g49 g50 g51 g52 g53 g54 g55 g56 g57 g58 g59 g60 g61 g62 g63 g64 g65 g66 g67 g68 g69 g70 g71 g72 g73 g74 g75 g76 g77 g78 g79 g80 g81 g82 g83 g84 g85 g86 g87 g88 g89 g90 g91 g92 g93 g94 g95 g96 g97 g98 g99 g100 g101 g102 g103 g104 g105 g107 g108 g109 g110 g111 g112 g113 g114 g115 g116 g117 : HV} (h : J5 k rec0 y5 y8 y14 y15 y16 y19 y106 S = some p) : HRun Tryz.prog base W0 β0 5 none [.inRegion r106 [6, 7, 8, 9], .code c107, .code c110, .inBlock 5, .code c117, .inLoop c71, .inBlock 4, .code c118] ⟨[g0, g1, g2, g3, g4, (.ptr y5), g6, g7, (.int .i64 y8), g9, g10, g11, g12, g13, (.bool y14), (.int .i64 y15), (.int .i64 y16), g17, g18, (.int .i64 y19), g20, g21, g22, g23, g24, g25, g26, g27, g28, g29, g30, g31, g32, g33, g34, g35, g36, g37, g38, g39, g40, g41, g42, g43, g44, g45, g46, g47, g48, g49, g50, g51, g52, g53, g54, g55, g56, g57, g58, g59, g60, g61, g62, g63, g64, g65, g66, g67, g68, g69, g70, g71, g72, g73, g74, g75, g76, g77, g78, g79, g80, g81, g82, g83, g84, g85, g86, g87, g88, g89, g90, g91, g92, g93, g94, g95, g96, g97, g98, g99, g100, g101, g102, g103, g104, g105, (.bool y106), g107, g108, g109, g110, g111, g112, g113, g114, g115, g116, g117], []⟩ S (fun v S1 => v = (.bool p.1) ∧ S1 = p.2) := by
  unfold J5 at h
  refine qS 107 rfl (ok_move · (.tmp rfl)) ?_
  rcases ifc h with ⟨hc31, h⟩ | ⟨hc31, h⟩
  · refine qG 107 108 rfl hc31 (ok_move · (.tmp rfl)) ?_
    try dsimp only [w0, w1, w2, w3]
    refine qG 107 109 rfl hc31 (ok_ibin · (.tmp rfl) (.int _ _) rfl) ?_
    refine qS 110 rfl (ok_pick_tt · (.tmp rfl) hc31 (.tmp rfl)) ?_
    refine hr_region_end ?_
    try dsimp only [w0, w1, w2, w3]
    try dsimp only [w0, w1, w2, w3]
    exact J6_snd hrec0 h
  · refine q_skip (dst := some 108) (t := 107) rfl rfl rfl (bfalse hc31) ?_
    try dsimp only [w0, w1, w2, w3]
    refine q_skip (dst := some 109) (t := 107) rfl rfl rfl (bfalse hc31) ?_
    refine qS 110 rfl (ok_pick_ff · (.tmp rfl) (bfalse hc31) (.bool _)) ?_
    refine hr_region_end ?_
    try dsimp only [w0, w1, w2, w3]
    try dsimp only [w0, w1, w2, w3]
    exact J6_snd hrec0 h
def L3 (k : Nat) (rec0 : (Option HA) → Int → Bool → Int → HS → Option ((Bool) × HS)) : Nat → (Option HA) → Int → Bool → Int → Int → Sl → Int → HS → Option ((Bool) × HS)
  | 0, _, _, _, _, _, _, _, _ => none
  | n + 1, y5, y8, y14, y15, y16, y17, y18, S =>
    (if y18 < (Sl.len y17 : Int) then
    (Option.bind (HS.idx S y17 y18 4) fun p27 =>
    (Option.bind (HS.ldS S (HA.fld p27 2)) fun p28 =>
    (if p28 = ([75, 73, 67, 75] : List UInt8) then
    J4 k (L3 k rec0 n) rec0 y5 y8 y14 y15 (w64 (y16 + 1)) y17 y18 S else
    J4 k (L3 k rec0 n) rec0 y5 y8 y14 y15 y16 y17 y18 S))) else
    (if y8 = 1 then
    J5 k rec0 y5 y8 y14 y15 y16 0 (decide (y15 ≥ 1)) S else
    J5 k rec0 y5 y8 y14 y15 y16 0 false S))
theorem L3_snd {k : Nat} {rec0 : (Option HA) → Int → Bool → Int → HS → Option ((Bool) × HS)} (hrec0 : ∀ ⦃y5 : (Option HA)⦄ ⦃y8 : Int⦄ ⦃y14 : Bool⦄ ⦃y15 : Int⦄ ⦃S : HS⦄ ⦃p : (Bool) × HS⦄ ⦃g0 g1 g2 g3 g4 g6 g7 g9 g10 g11 g12 g13 g16 g17 g18 g19 g20 g21 g22 g23 g24 g25 g26 g27 g28 g29 g30 g31 g32 g33 g34 g35 g36 g37 g38 g39 g40 g41 g42 g43 g44 g45 g46 g47 g48 g49 g50 g51 g52 g53 g54 g55 g56 g57 g58 g59 g60 g61 g62 g63 g64 g65 g66 g67 g68 g69 g70 g71 g72 g73 g74 g75 g76 g77 g78 g79 g80 g81 g82 g83 g84 g85 g86 g87 g88 g89 g90 g91 g92 g93 g94 g95 g96 g97 g98 g99 g100 g101 g102 g103 g104 g105 g106 g107 g108 g109 g110 g111 g112 g113 g114 g115 g116 g117 : HV⦄, rec0 y5 y8 y14 y15 S = some p → HRun Tryz.prog base W0 β0 5 none [.inLoop c71, .inBlock 4, .code c118] ⟨[g0, g1, g2, g3, g4, (.ptr y5), g6, g7, (.int .i64 y8), g9, g10, g11, g12, g13, (.bool y14), (.int .i64 y15), g16, g17, g18, g19, g20, g21, g22, g23, g24, g25, g26, g27, g28, g29, g30, g31, g32, g33, g34, g35, g36, g37, g38, g39, g40, g41, g42, g43, g44, g45, g46, g47, g48, g49, g50, g51, g52, g53, g54, g55, g56, g57, g58, g59, g60, g61, g62, g63, g64, g65, g66, g67, g68, g69, g70, g71, g72, g73, g74, g75, g76, g77, g78, g79, g80, g81, g82, g83, g84, g85, g86, g87, g88, g89, g90, g91, g92, g93, g94, g95, g96, g97, g98, g99, g100, g101, g102, g103, g104, g105, g106, g107, g108, g109, g110, g111, g112, g113, g114, g115, g116, g117], []⟩ S (fun v S1 => v = (.bool p.1) ∧ S1 = p.2)) : ∀ {n : Nat} ⦃y5 : (Option HA)⦄ ⦃y8 : Int⦄ ⦃y14 : Bool⦄ ⦃y15 : Int⦄ ⦃y16 : Int⦄ ⦃y17 : Sl⦄ ⦃y18 : Int⦄ ⦃S : HS⦄ ⦃p : (Bool) × HS⦄ ⦃g0 g1 g2 g3 g4 g6 g7 g9 g10 g11 g12 g13 g19 g20 g21 g22 g23 g24 g25 g26 g27 g28 g29 g30 g31 g32 g33 g34 g35 g36 g37 g38 g39 g40 g41 g42 g43 g44 g45 g46 g47 g48 g49 g50 g51 g52 g53 g54 g55 g56 g57 g58 g59 g60 g61 g62 g63 g64 g65 g66 g67 g68 g69 g70 g71 g72 g73 g74 g75 g76 g77 g78 g79 g80 g81 g82 g83 g84 g85 g86 g87 g88 g89 g90 g91 g92 g93 g94 g95 g96 g97 g98 g99 g100 g101 g102 g103 g104 g105 g106 g107 g108 g109 g110 g111 g112 g113 g114 g115 g116 g117 : HV⦄, L3 k rec0 n y5 y8 y14 y15 y16 y17 y18 S = some p → HRun Tryz.prog base W0 β0 5 none [.inLoop c88, .inBlock 6, .code c102, .inBlock 5, .code c117, .inLoop c71, .inBlock 4, .code c118] ⟨[g0, g1, g2, g3, g4, (.ptr y5), g6, g7, (.int .i64 y8), g9, g10, g11, g12, g13, (.bool y14), (.int .i64 y15), (.int .i64 y16), (Sl.hv y17), (.int .i64 y18), g19, g20, g21, g22, g23, g24, g25, g26, g27, g28, g29, g30, g31, g32, g33, g34, g35, g36, g37, g38, g39, g40, g41, g42, g43, g44, g45, g46, g47, g48, g49, g50, g51, g52, g53, g54, g55, g56, g57, g58, g59, g60, g61, g62, g63, g64, g65, g66, g67, g68, g69, g70, g71, g72, g73, g74, g75, g76, g77, g78, g79, g80, g81, g82, g83, g84, g85, g86, g87, g88, g89, g90, g91, g92, g93, g94, g95, g96, g97, g98, g99, g100, g101, g102, g103, g104, g105, g106, g107, g108, g109, g110, g111, g112, g113, g114, g115, g116, g117], []⟩ S (fun v S1 => v = (.bool p.1) ∧ S1 = p.2) := by
  intro n
  induction n with
  | zero => intro _ _ _ _ _ _ _ _ _ _ _ _ _ _ _ _ _ _ _ _ _ _ _ _ _ _ _ _ _ _ _ _ _ _ _ _ _ _ _ _ _ _ _ _ _ _ _ _ _ _ _ _ _ _ _ _ _ _ _ _ _ _ _ _ _ _ _ _ _ _ _ _ _ _ _ _ _ _ _ _ _ _ _ _ _ _ _ _ _ _ _ _ _ _ _ _ _ _ _ _ _ _ _ _ _ _ _ _ _ _ _ _ _ _ _ _ _ _ _ _ h; cases h
  | succ n ih =>
    intro y5 y8 y14 y15 y16 y17 y18 S p g0 g1 g2 g3 g4 g6 g7 g9 g10 g11 g12 g13 g19 g20 g21 g22 g23 g24 g25 g26 g27 g28 g29 g30 g31 g32 g33 g34 g35 g36 g37 g38 g39 g40 g41 g42 g43 g44 g45 g46 g47 g48 g49 g50 g51 g52 g53 g54 g55 g56 g57 g58 g59 g60 g61 g62 g63 g64 g65 g66 g67 g68 g69 g70 g71 g72 g73 g74 g75 g76 g77 g78 g79 g80 g81 g82 g83 g84 g85 g86 g87 g88 g89 g90 g91 g92 g93 g94 g95 g96 g97 g98 g99 g100 g101 g102 g103 g104 g105 g106 g107 g108 g109 g110 g111 g112 g113 g114 g115 g116 g117 h
    simp only [L3] at h
    refine hr_inLoop ?_
    refine q_seq rfl ?_
    refine q_seq rfl ?_
    refine q_region rfl rfl ?_
    refine qS 87 rfl (ok_move · (.tmp rfl)) ?_
    refine qS 88 rfl (ok_move · (.tmp rfl)) ?_
    refine qS 89 rfl (ok_len_sl (q := Sl.a y17) (n := Sl.len y17) (z := Sl.cap y17) · rfl tu27 (.tmp rfl)) ?_
    refine qS 90 rfl (ok_ibin · (.tmp rfl) (.tmp rfl) rfl) ?_
    refine hr_region_end ?_
    try dsimp only [w0, w1, w2, w3]
    rcases ifc h with ⟨hc26, h⟩ | ⟨hc26, h⟩
    · refine q_cond_t rfl (.tmp rfl) (decide_eq_true hc26) ?_
      refine q_skipc rfl ?_
      refine q_seq rfl ?_
      refine q_block rfl ?_
      refine q_seq rfl ?_
      refine q_region rfl rfl ?_
      refine qS 93 rfl (ok_move · (.tmp rfl)) ?_
      refine qS 94 rfl (ok_move · (.tmp rfl)) ?_
      obtain ⟨p27, hp27, h⟩ := bindo h
      refine qS 95 rfl (ok_indexAddr (s := y17) · tu27 sz32 (.tmp rfl) (.tmp rfl) hp27) ?_
      refine qS 96 rfl (ok_fieldAddr_s · fi32_2 (by decide) (.tmp rfl) rfl) ?_
      try dsimp only [w0, w1, w2, w3]
      obtain ⟨p28, hp28, h⟩ := bindo h
      refine qS 97 rfl (ok_load_s · sc9 (.tmp rfl) rfl (ldS_out hp28)) ?_
      refine qS 98 rfl (ok_sbin · (.tmp rfl) (.str _) rfl) ?_
      refine hr_region_end ?_
      try dsimp only [w0, w1, w2, w3]
      rcases ifc h with ⟨hc29, h⟩ | ⟨hc29, h⟩
      · refine q_cond_t rfl (.tmp rfl) (decide_eq_true hc29) ?_
        refine q_region rfl rfl ?_
        refine qS 99 rfl (ok_move · (.tmp rfl)) ?_
        refine qS 100 rfl (ok_ibin · (.tmp rfl) (.int _ _) rfl) ?_
        refine qS 16 rfl (ok_assign · (.tmp rfl)) ?_
        refine hr_region_end ?_
        try dsimp only [w0, w1, w2, w3]
        refine hr_inBlock ?_
        try dsimp only [w0, w1, w2, w3]
        exact J4_snd ih hrec0 h
      · refine q_cond_f rfl (.tmp rfl) (decide_eq_false hc29) ?_
        refine q_skipc rfl ?_
        refine hr_inBlock ?_
        try dsimp only [w0, w1, w2, w3]
        exact J4_snd ih hrec0 h
    · refine q_cond_f rfl (.tmp rfl) (decide_eq_false hc26) ?_
      refine q_exit rfl rfl ?_
      refine q_seq rfl ?_
      refine q_region rfl rfl ?_
      refine qS 19 rfl (ok_assign · (.int _ _)) ?_
      refine hr_region_end ?_
      try dsimp only [w0, w1, w2, w3]
      refine q_seq rfl ?_
      refine q_seq rfl ?_
      refine q_region rfl rfl ?_
      refine qS 101 rfl (ok_move · (.tmp rfl)) ?_
      refine qS 102 rfl (ok_ibin · (.tmp rfl) (.int _ _) rfl) ?_
      refine qS 103 rfl (ok_move · (.tmp rfl)) ?_
      rcases ifc h with ⟨hc30, h⟩ | ⟨hc30, h⟩
      · refine qG 103 104 rfl (decide_eq_true hc30) (ok_move · (.tmp rfl)) ?_
        try dsimp only [w0, w1, w2, w3]
        refine qG 103 105 rfl (decide_eq_true hc30) (ok_ibin · (.tmp rfl) (.int _ _) rfl) ?_
        refine qS 106 rfl (ok_pick_tt · (.tmp rfl) (decide_eq_true hc30) (.tmp rfl)) ?_
        try dsimp only [w0, w1, w2, w3]
        exact J5_snd hrec0 h
      · refine q_skip (dst := some 104) (t := 103) rfl rfl rfl (decide_eq_false hc30) ?_
        try dsimp only [w0, w1, w2, w3]
        refine q_skip (dst := some 105) (t := 103) rfl rfl rfl (decide_eq_false hc30) ?_
        refine qS 106 rfl (ok_pick_ff · (.tmp rfl) (decide_eq_false hc30) (.bool _)) ?_
        try dsimp only [w0, w1, w2, w3]
        exact J5_snd hrec0 h
def L2 (k : Nat) : Nat → (Option HA) → Int → Bool → Int → HS → Option ((Bool) × HS)
  | 0, _, _, _, _, _ => none
  | n + 1, y5, y8, y14, y15, S =>
    (if y15 ≤ 4 then
    (Option.bind (rollcalltop_drained.f y5 y15 S) fun p25 =>
    L3 k (L2 k n) k y5 y8 y14 y15 0 p25.1 0 p25.2) else
    some ((y14 == (!decide (y8 = 1))), S))
theorem L2_snd {k : Nat}  : ∀ {n : Nat} ⦃y5 : (Option HA)⦄ ⦃y8 : Int⦄ ⦃y14 : Bool⦄ ⦃y15 : Int⦄ ⦃S : HS⦄ ⦃p : (Bool) × HS⦄ ⦃g0 g1 g2 g3 g4 g6 g7 g9 g10 g11 g12 g13 g16 g17 g18 g19 g20 g21 g22 g23 g24 g25 g26 g27 g28 g29 g30 g31 g32 g33 g34 g35 g36 g37 g38 g39 g40 g41 g42 g43 g44 g45 g46 g47 g48 g49 g50 g51 g52 g53 g54 g55 g56 g57 g58 g59 g60 g61 g62 g63 g64 g65 g66 g67 g68 g69 g70 g71 g72 g73 g74 g75 g76 g77 g78 g79 g80 g81 g82 g83 g84 g85 g86 g87 g88 g89 g90 g91 g92 g93 g94 g95 g96 g97 g98 g99 g100 g101 g102 g103 g104 g105 g106 g107 g108 g109 g110 g111 g112 g113 g114 g115 g116 g117 : HV⦄, L2 k n y5 y8 y14 y15 S = some p → HRun Tryz.prog base W0 β0 5 none [.inLoop c71, .inBlock 4, .code c118] ⟨[g0, g1, g2, g3, g4, (.ptr y5), g6, g7, (.int .i64 y8), g9, g10, g11, g12, g13, (.bool y14), (.int .i64 y15), g16, g17, g18, g19, g20, g21, g22, g23, g24, g25, g26, g27, g28, g29, g30, g31, g32, g33, g34, g35, g36, g37, g38, g39, g40, g41, g42, g43, g44, g45, g46, g47, g48, g49, g50, g51, g52, g53, g54, g55, g56, g57, g58, g59, g60, g61, g62, g63, g64, g65, g66, g67, g68, g69, g70, g71, g72, g73, g74, g75, g76, g77, g78, g79, g80, g81, g82, g83, g84, g85, g86, g87, g88, g89, g90, g91, g92, g93, g94, g95, g96, g97, g98, g99, g100, g101, g102, g103, g104, g105, g106, g107, g108, g109, g110, g111, g112, g113, g114, g115, g116, g117], []⟩ S (fun v S1 => v = (.bool p.1) ∧ S1 = p.2) := by
  intro n
  induction n with
  | zero => intro _ _ _ _ _ _ _ _ _ _ _ _ _ _ _ _ _ _ _ _ _ _ _ _ _ _ _ _ _ _ _ _ _ _ _ _ _ _ _ _ _ _ _ _ _ _ _ _ _ _ _ _ _ _ _ _ _ _ _ _ _ _ _ _ _ _ _ _ _ _ _ _ _ _ _ _ _ _ _ _ _ _ _ _ _ _ _ _ _ _ _ _ _ _ _ _ _ _ _ _ _ _ _ _ _ _ _ _ _ _ _ _ _ _ _ _ _ _ _ _ h; cases h
  | succ n ih =>
    intro y5 y8 y14 y15 S p g0 g1 g2 g3 g4 g6 g7 g9 g10 g11 g12 g13 g16 g17 g18 g19 g20 g21 g22 g23 g24 g25 g26 g27 g28 g29 g30 g31 g32 g33 g34 g35 g36 g37 g38 g39 g40 g41 g42 g43 g44 g45 g46 g47 g48 g49 g50 g51 g52 g53 g54 g55 g56 g57 g58 g59 g60 g61 g62 g63 g64 g65 g66 g67 g68 g69 g70 g71 g72 g73 g74 g75 g76 g77 g78 g79 g80 g81 g82 g83 g84 g85 g86 g87 g88 g89 g90 g91 g92 g93 g94 g95 g96 g97 g98 g99 g100 g101 g102 g103 g104 g105 g106 g107 g108 g109 g110 g111 g112 g113 g114 g115 g116 g117 h
    simp only [L2] at h
    refine hr_inLoop ?_
    refine q_seq rfl ?_
    refine q_seq rfl ?_
    refine q_region rfl rfl ?_
    refine qS 80 rfl (ok_move · (.tmp rfl)) ?_
    refine qS 81 rfl (ok_ibin · (.tmp rfl) (.int _ _) rfl) ?_
    refine hr_region_end ?_
    try dsimp only [w0, w1, w2, w3]
    rcases ifc h with ⟨hc24, h⟩ | ⟨hc24, h⟩
    · refine q_cond_t rfl (.tmp rfl) (decide_eq_true hc24) ?_
      refine q_skipc rfl ?_
      refine q_seq rfl ?_
      refine q_block rfl ?_
      refine q_seq rfl ?_
      refine q_region rfl rfl ?_
      refine qS 16 rfl (ok_assign · (.int _ _)) ?_
      refine hr_region_end ?_
      try dsimp only [w0, w1, w2, w3]
      refine q_seq rfl ?_
      refine q_region rfl rfl ?_
      refine qS 84 rfl (ok_move · (.tmp rfl)) ?_
      refine qS 85 rfl (ok_move · (.tmp rfl)) ?_
      obtain ⟨p25, hp25, h⟩ := bindo h
      refine q_call (dst := some 86) rfl (.func _) (.cons (.tmp rfl) (.cons (.tmp rfl) Evs.nil)) (HInv.static rollcalltop_drained.at_ rollcalltop_drained.body (rollcalltop_drained.snd  hp25)) ?_
      rintro _ _ ⟨rfl, rfl⟩
      refine qS 17 rfl (ok_assign · (.tmp rfl)) ?_
      refine hr_region_end ?_
      try dsimp only [w0, w1, w2, w3]
      refine q_seq rfl ?_
      refine q_seq rfl ?_
      refine q_region rfl rfl ?_
      refine qS 18 rfl (ok_assign · (.int _ _)) ?_
      refine hr_region_end ?_
      try dsimp only [w0, w1, w2, w3]
      refine q_block rfl ?_
      refine q_loop rfl ?_
      try dsimp only [w0, w1, w2, w3]
      exact L3_snd ih h
    · refine q_cond_f rfl (.tmp rfl) (decide_eq_false hc24) ?_
      refine q_exit rfl rfl ?_
      refine q_seq rfl ?_
      refine q_region rfl rfl ?_
      refine qS 114 rfl (ok_move · (.tmp rfl)) ?_
      refine qS 115 rfl (ok_move · (.tmp rfl)) ?_
      refine qS 116 rfl (ok_ibin · (.tmp rfl) (.int _ _) rfl) ?_
      refine qS 117 rfl (ok_beq · tu4 (.inl ⟨rfl, rfl⟩) (.tmp rfl) (.tmp rfl)) ?_
      try dsimp only [w0, w1, w2, w3]
      refine qS 4 rfl (ok_assign · (.tmp rfl)) ?_
      refine hr_region_end ?_
      try dsimp only [w0, w1, w2, w3]
      cases h
      exact q_ret rfl at_.at_ rfl (res1 rfl rfl) ⟨rfl, rfl⟩
def L1 (k : Nat) : Nat → (Option HA) → Int → Int → Int → HS → Option ((Bool) × HS)
  | 0, _, _, _, _, _ => none
  | n + 1, y5, y8, y9, y10, S =>
    (if y10 ≤ 4 then
    (Option.bind (y5) fun p9 =>
    (Option.bind (HS.ldP S (HA.fld p9 0)) fun p10 =>
    (Option.bind (core_Core_Drain.f p10 y10 1048576 S) fun p11 =>
    (L1 k n) y5 y8 y9 (w64 (y10 + 1)) p11.2))) else
    (letv (HS.lit S [[(.int .u8 (w8 (w64 (97 + y9))))]] 1) fun p12 =>
    (Option.bind (HS.text (p12.2) (p12.1)) fun p13 =>
    (letv (HS.lit (p12.2) [[(.str ([35, 114] : List UInt8))], [(.str p13)]] 1) fun p14 =>
    (Option.bind (rollcalltop_said.f y5 y8 ([75, 73, 67, 75] : List UInt8) (p14.1) (p14.2)) fun p15 =>
    (Option.bind (y5) fun p16 =>
    (Option.bind (HS.ldP p15.2 (HA.fld p16 0)) fun p17 =>
    (Option.bind (core_Core_Rooms.f p17 p15.2) fun p18 =>
    (Option.bind (rooms_Rooms_Get.f p18.1 ([35, 114] : List UInt8) p18.2) fun p19 =>
    (if (!p19.1.2) = true then
    some (false, p19.2) else
    (Option.bind (room_Room_Member.f p19.1.1 y9 p19.2) fun p21 =>
    (letv (HS.new p21.2 (.cells 3 [[(.int .i64 0), (.bool false), (.bool false)]] true)) fun p22 =>
    (Option.bind (HS.sets p22 (HA.cell0 p21.2.next) [(.int .i64 p21.1.1), (.bool p21.1.2.1), (.bool p21.1.2.2.1)]) fun p23 =>
    L2 k k y5 y8 p21.1.2.2.2 0 p23)))))))))))))
theorem L1_snd {k : Nat}  : ∀ {n : Nat} ⦃y5 : (Option HA)⦄ ⦃y8 : Int⦄ ⦃y9 : Int⦄ ⦃y10 : Int⦄ ⦃S : HS⦄ ⦃p : (Bool) × HS⦄ ⦃g0 g1 g2 g3 g4 g6 g7 g11 g12 g13 g14 g15 g16 g17 g18 g19 g20 g21 g22 g23 g24 g25 g26 g27 g28 g29 g30 g31 g32 g33 g34 g35 g36 g37 g38 g39 g40 g41 g42 g43 g44 g45 g46 g47 g48 g49 g50 g51 g52 g53 g54 g55 g56 g57 g58 g59 g60 g61 g62 g63 g64 g65 g66 g67 g68 g69 g70 g71 g72 g73 g74 g75 g76 g77 g78 g79 g80 g81 g82 g83 g84 g85 g86 g87 g88 g89 g90 g91 g92 g93 g94 g95 g96 g97 g98 g99 g100 g101 g102 g103 g104 g105 g106 g107 g108 g109 g110 g111 g112 g113 g114 g115 g116 g117 : HV⦄, L1 k n y5 y8 y9 y10 S = some p → HRun Tryz.prog base W0 β0 5 none [.inLoop c42, .inBlock 2, .code c52] ⟨[g0, g1, g2, g3, g4, (.ptr y5), g6, g7, (.int .i64 y8), (.int .i64 y9), (.int .i64 y10), g11, g12, g13, g14, g15, g16, g17, g18, g19, g20, g21, g22, g23, g24, g25, g26, g27, g28, g29, g30, g31, g32, g33, g34, g35, g36, g37, g38, g39, g40, g41, g42, g43, g44, g45, g46, g47, g48, g49, g50, g51, g52, g53, g54, g55, g56, g57, g58, g59, g60, g61, g62, g63, g64, g65, g66, g67, g68, g69, g70, g71, g72, g73, g74, g75, g76, g77, g78, g79, g80, g81, g82, g83, g84, g85, g86, g87, g88, g89, g90, g91, g92, g93, g94, g95, g96, g97, g98, g99, g100, g101, g102, g103, g104, g105, g106, g107, g108, g109, g110, g111, g112, g113, g114, g115, g116, g117], []⟩ S (fun v S1 => v = (.bool p.1) ∧ S1 = p.2) := by
  intro n
  induction n with
  | zero => intro _ _ _ _ _ _ _ _ _ _ _ _ _ _ _ _ _ _ _ _ _ _ _ _ _ _ _ _ _ _ _ _ _ _ _ _ _ _ _ _ _ _ _ _ _ _ _ _ _ _ _ _ _ _ _ _ _ _ _ _ _ _ _ _ _ _ _ _ _ _ _ _ _ _ _ _ _ _ _ _ _ _ _ _ _ _ _ _ _ _ _ _ _ _ _ _ _ _ _ _ _ _ _ _ _ _ _ _ _ _ _ _ _ _ _ _ _ _ _ _ h; cases h
  | succ n ih =>
    intro y5 y8 y9 y10 S p g0 g1 g2 g3 g4 g6 g7 g11 g12 g13 g14 g15 g16 g17 g18 g19 g20 g21 g22 g23 g24 g25 g26 g27 g28 g29 g30 g31 g32 g33 g34 g35 g36 g37 g38 g39 g40 g41 g42 g43 g44 g45 g46 g47 g48 g49 g50 g51 g52 g53 g54 g55 g56 g57 g58 g59 g60 g61 g62 g63 g64 g65 g66 g67 g68 g69 g70 g71 g72 g73 g74 g75 g76 g77 g78 g79 g80 g81 g82 g83 g84 g85 g86 g87 g88 g89 g90 g91 g92 g93 g94 g95 g96 g97 g98 g99 g100 g101 g102 g103 g104 g105 g106 g107 g108 g109 g110 g111 g112 g113 g114 g115 g116 g117 h
    simp only [L1] at h
    refine hr_inLoop ?_
    refine q_seq rfl ?_
    refine q_seq rfl ?_
    refine q_region rfl rfl ?_
    refine qS 44 rfl (ok_move · (.tmp rfl)) ?_
    refine qS 45 rfl (ok_ibin · (.tmp rfl) (.int _ _) rfl) ?_
    refine hr_region_end ?_
    try dsimp only [w0, w1, w2, w3]
    rcases ifc h with ⟨hc8, h⟩ | ⟨hc8, h⟩
    · refine q_cond_t rfl (.tmp rfl) (decide_eq_true hc8) ?_
      refine q_skipc rfl ?_
      refine q_seq rfl ?_
      refine q_block rfl ?_
      refine q_region rfl rfl ?_
      refine qS 48 rfl (ok_move · (.tmp rfl)) ?_
      obtain ⟨p9, hp9, h⟩ := bindo h
      refine qS 49 rfl (ok_nilCheck_p · (.tmp rfl) hp9) ?_
      refine qS 50 rfl (ok_fieldAddr_s · fi41_0 (by decide) (.tmp rfl) rfl) ?_
      obtain ⟨p10, hp10, h⟩ := bindo h
      refine qS 51 rfl (ok_load_s · sc39 (.tmp rfl) rfl (ldP_out hp10)) ?_
      try dsimp only [w0, w1, w2, w3]
      refine qS 52 rfl (ok_move · (.tmp rfl)) ?_
      obtain ⟨p11, hp11, h⟩ := bindo h
      refine q_call (dst := some 53) rfl (.func _) (.cons (.tmp rfl) (.cons (.tmp rfl) (.cons (.int _ _) Evs.nil))) (HInv.static core_Core_Drain.at_ core_Core_Drain.body (core_Core_Drain.snd  hp11)) ?_
      rintro _ _ ⟨rfl, rfl⟩
      refine hr_region_end ?_
      try dsimp only [w0, w1, w2, w3]
      refine hr_inBlock ?_
      refine q_region rfl rfl ?_
      refine qS 46 rfl (ok_move · (.tmp rfl)) ?_
      refine qS 47 rfl (ok_ibin · (.tmp rfl) (.int _ _) rfl) ?_
      refine qS 10 rfl (ok_assign · (.tmp rfl)) ?_
      refine hr_region_end ?_
      try dsimp only [w0, w1, w2, w3]
      try dsimp only [w0, w1, w2, w3]
      exact ih h
    · refine q_cond_f rfl (.tmp rfl) (decide_eq_false hc8) ?_
      refine q_exit rfl rfl ?_
      refine q_seq rfl ?_
      refine q_region rfl rfl ?_
      refine qS 54 rfl (ok_move · (.tmp rfl)) ?_
      refine qS 55 rfl (ok_move · (.tmp rfl)) ?_
      refine qS 56 rfl (ok_move · (.tmp rfl)) ?_
      refine qS 57 rfl (ok_ibin · (.int _ _) (.tmp rfl) rfl) ?_
      try dsimp only [w0, w1, w2, w3]
      refine qS 58 rfl (ok_conv_int · tu3 tu5 (.tmp rfl)) ?_
      obtain ⟨p12, hp12, h⟩ := leto h
      refine qS 59 rfl (ok_buildSlice_s (xs := [(.tmp 58)]) el49 · rfl rfl (by decide) (.cons (.tmp rfl) Evs.nil) rfl rfl hp12) ?_
      obtain ⟨p13, hp13, h⟩ := bindo h
      refine qS 60 rfl (ok_str_of_bytes (s := (p12.1)) · tu49 tu5 tu9 (.tmp rfl) hp13) ?_
      obtain ⟨p14, hp14, h⟩ := leto h
      refine qS 61 rfl (ok_buildSlice_s (xs := [(.const (.string ⟨#[35, 114]⟩)), (.tmp 60)]) el30 · rfl rfl (by decide) (.cons (.str _) (.cons (.tmp rfl) Evs.nil)) rfl rfl hp14) ?_
      try dsimp only [w0, w1, w2, w3]
      obtain ⟨p15, hp15, h⟩ := bindo h
      refine q_call (dst := some 62) rfl (.func _) (.cons (.tmp rfl) (.cons (.tmp rfl) (.cons (.str _) (.cons (.tmp rfl) Evs.nil)))) (HInv.static rollcalltop_said.at_ rollcalltop_said.body (rollcalltop_said.snd  hp15)) ?_
      rintro _ _ ⟨rfl, rfl⟩
      refine hr_region_end ?_
      try dsimp only [w0, w1, w2, w3]
      refine q_seq rfl ?_
      refine q_region rfl rfl ?_
      refine qS 64 rfl (ok_move · (.tmp rfl)) ?_
      obtain ⟨p16, hp16, h⟩ := bindo h
      refine qS 65 rfl (ok_nilCheck_p · (.tmp rfl) hp16) ?_
      refine qS 66 rfl (ok_fieldAddr_s · fi41_0 (by decide) (.tmp rfl) rfl) ?_
      obtain ⟨p17, hp17, h⟩ := bindo h
      refine qS 67 rfl (ok_load_s · sc39 (.tmp rfl) rfl (ldP_out hp17)) ?_
      try dsimp only [w0, w1, w2, w3]
      obtain ⟨p18, hp18, h⟩ := bindo h
      refine q_call (dst := some 68) rfl (.func _) (.cons (.tmp rfl) Evs.nil) (HInv.static core_Core_Rooms.at_ core_Core_Rooms.body (core_Core_Rooms.snd  hp18)) ?_
      rintro _ _ ⟨rfl, rfl⟩
      obtain ⟨p19, hp19, h⟩ := bindo h
      refine q_call (dst := some 69) rfl (.func _) (.cons (.tmp rfl) (.cons (.str _) Evs.nil)) (HInv.static rooms_Rooms_Get.at_ rooms_Rooms_Get.body (rooms_Rooms_Get.snd  hp19)) ?_
      rintro _ _ ⟨rfl, rfl⟩
      refine qS 63 rfl (ok_move · (.tmp rfl)) ?_
      refine qS 70 rfl (ok_extract · (.tmp rfl) rfl) ?_
      try dsimp only [w0, w1, w2, w3]
      refine qS 71 rfl (ok_extract · (.tmp rfl) rfl) ?_
      refine qS 11 rfl (ok_assign · (.tmp rfl)) ?_
      refine qS 12 rfl (ok_assign · (.tmp rfl)) ?_
      refine hr_region_end ?_
      try dsimp only [w0, w1, w2, w3]
      refine q_seq rfl ?_
      refine q_seq rfl ?_
      refine q_region rfl rfl ?_
      refine qS 72 rfl (ok_move · (.tmp rfl)) ?_
      refine qS 73 rfl (ok_not · (.tmp rfl)) ?_
      refine hr_region_end ?_
      try dsimp only [w0, w1, w2, w3]
      rcases ifc h with ⟨hc20, h⟩ | ⟨hc20, h⟩
      · refine q_cond_t rfl (.tmp rfl) hc20 ?_
        refine q_seq rfl ?_
        refine q_region rfl rfl ?_
        refine qS 4 rfl (ok_assign · (.bool _)) ?_
        refine hr_region_end ?_
        try dsimp only [w0, w1, w2, w3]
        cases h
        exact q_ret rfl at_.at_ rfl (res1 rfl rfl) ⟨rfl, rfl⟩
      · refine q_cond_f rfl (.tmp rfl) (bfalse hc20) ?_
        refine q_skipc rfl ?_
        refine q_seq rfl ?_
        refine q_region rfl rfl ?_
        refine qS 75 rfl (ok_move · (.tmp rfl)) ?_
        refine qS 76 rfl (ok_move · (.tmp rfl)) ?_
        obtain ⟨p21, hp21, h⟩ := bindo h
        refine q_call (dst := some 77) rfl (.func _) (.cons (.tmp rfl) (.cons (.tmp rfl) Evs.nil)) (HInv.static room_Room_Member.at_ room_Room_Member.body (room_Room_Member.snd  hp21)) ?_
        rintro _ _ ⟨rfl, rfl⟩
        refine qS 74 rfl (ok_move · (.tmp rfl)) ?_
        try dsimp only [w0, w1, w2, w3]
        refine qS 78 rfl (ok_extract · (.tmp rfl) rfl) ?_
        refine qS 79 rfl (ok_extract · (.tmp rfl) rfl) ?_
        obtain ⟨p22, hp22, h⟩ := leto h
        refine qS 13 rfl (ok_alloc_e · zi44 zr44 (by decide) rfl hp22) ?_
        obtain ⟨p23, hp23, h⟩ := bindo h
        refine qN rfl (ok_store_s (v := (.agg [(.int .i64 p21.1.1), (.bool p21.1.2.1), (.bool p21.1.2.2.1)])) · sz44 (.tmp rfl) rfl (.tmp rfl) rfl hp23) ?_
        try dsimp only [w0, w1, w2, w3]
        refine qS 14 rfl (ok_assign · (.tmp rfl)) ?_
        refine hr_region_end ?_
        try dsimp only [w0, w1, w2, w3]
        refine q_seq rfl ?_
        refine q_seq rfl ?_
        refine q_region rfl rfl ?_
        refine qS 15 rfl (ok_assign · (.int _ _)) ?_
        refine hr_region_end ?_
        try dsimp only [w0, w1, w2, w3]
        refine q_block rfl ?_
        refine q_loop rfl ?_
        try dsimp only [w0, w1, w2, w3]
        exact L2_snd  h
def L0 (k : Nat) : Nat → Int → Int → (Option HA) → Int → HS → Option ((Bool) × HS)
  | 0, _, _, _, _, _ => none
  | n + 1, y0, y1, y5, y7, S =>
    (if y7 ≤ 3 then
    (letv (HS.lit S [[(.str ([35, 114] : List UInt8))]] 1) fun p6 =>
    (Option.bind (rollcalltop_said.f y5 y7 ([74, 79, 73, 78] : List UInt8) (p6.1) (p6.2)) fun p7 =>
    (L0 k n) y0 y1 y5 (w64 (y7 + 1)) p7.2)) else
    L1 k k y5 (w64 (1 + (Int.tmod (w64 y0) 3))) (w64 (1 + (Int.tmod (w64 y1) 3))) 0 S)
theorem L0_snd {k : Nat}  : ∀ {n : Nat} ⦃y0 : Int⦄ ⦃y1 : Int⦄ ⦃y5 : (Option HA)⦄ ⦃y7 : Int⦄ ⦃S : HS⦄ ⦃p : (Bool) × HS⦄ ⦃g2 g3 g4 g6 g8 g9 g10 g11 g12 g13 g14 g15 g16 g17 g18 g19 g20 g21 g22 g23 g24 g25 g26 g27 g28 g29 g30 g31 g32 g33 g34 g35 g36 g37 g38 g39 g40 g41 g42 g43 g44 g45 g46 g47 g48 g49 g50 g51 g52 g53 g54 g55 g56 g57 g58 g59 g60 g61 g62 g63 g64 g65 g66 g67 g68 g69 g70 g71 g72 g73 g74 g75 g76 g77 g78 g79 g80 g81 g82 g83 g84 g85 g86 g87 g88 g89 g90 g91 g92 g93 g94 g95 g96 g97 g98 g99 g100 g101 g102 g103 g104 g105 g106 g107 g108 g109 g110 g111 g112 g113 g114 g115 g116 g117 : HV⦄, L0 k n y0 y1 y5 y7 S = some p → HRun Tryz.prog base W0 β0 5 none [.inLoop c25, .inBlock 0, .code c35] ⟨[(.int .u8 y0), (.int .u8 y1), g2, g3, g4, (.ptr y5), g6, (.int .i64 y7), g8, g9, g10, g11, g12, g13, g14, g15, g16, g17, g18, g19, g20, g21, g22, g23, g24, g25, g26, g27, g28, g29, g30, g31, g32, g33, g34, g35, g36, g37, g38, g39, g40, g41, g42, g43, g44, g45, g46, g47, g48, g49, g50, g51, g52, g53, g54, g55, g56, g57, g58, g59, g60, g61, g62, g63, g64, g65, g66, g67, g68, g69, g70, g71, g72, g73, g74, g75, g76, g77, g78, g79, g80, g81, g82, g83, g84, g85, g86, g87, g88, g89, g90, g91, g92, g93, g94, g95, g96, g97, g98, g99, g100, g101, g102, g103, g104, g105, g106, g107, g108, g109, g110, g111, g112, g113, g114, g115, g116, g117], []⟩ S (fun v S1 => v = (.bool p.1) ∧ S1 = p.2) := by
  intro n
  induction n with
  | zero => intro _ _ _ _ _ _ _ _ _ _ _ _ _ _ _ _ _ _ _ _ _ _ _ _ _ _ _ _ _ _ _ _ _ _ _ _ _ _ _ _ _ _ _ _ _ _ _ _ _ _ _ _ _ _ _ _ _ _ _ _ _ _ _ _ _ _ _ _ _ _ _ _ _ _ _ _ _ _ _ _ _ _ _ _ _ _ _ _ _ _ _ _ _ _ _ _ _ _ _ _ _ _ _ _ _ _ _ _ _ _ _ _ _ _ _ _ _ _ _ _ h; cases h
  | succ n ih =>
    intro y0 y1 y5 y7 S p g2 g3 g4 g6 g8 g9 g10 g11 g12 g13 g14 g15 g16 g17 g18 g19 g20 g21 g22 g23 g24 g25 g26 g27 g28 g29 g30 g31 g32 g33 g34 g35 g36 g37 g38 g39 g40 g41 g42 g43 g44 g45 g46 g47 g48 g49 g50 g51 g52 g53 g54 g55 g56 g57 g58 g59 g60 g61 g62 g63 g64 g65 g66 g67 g68 g69 g70 g71 g72 g73 g74 g75 g76 g77 g78 g79 g80 g81 g82 g83 g84 g85 g86 g87 g88 g89 g90 g91 g92 g93 g94 g95 g96 g97 g98 g99 g100 g101 g102 g103 g104 g105 g106 g107 g108 g109 g110 g111 g112 g113 g114 g115 g116 g117 h
    simp only [L0] at h
    refine hr_inLoop ?_
    refine q_seq rfl ?_
    refine q_seq rfl ?_
    refine q_region rfl rfl ?_
    refine qS 28 rfl (ok_move · (.tmp rfl)) ?_
    refine qS 29 rfl (ok_ibin · (.tmp rfl) (.int _ _) rfl) ?_
    refine hr_region_end ?_
    try dsimp only [w0, w1, w2, w3]
    rcases ifc h with ⟨hc5, h⟩ | ⟨hc5, h⟩
    · refine q_cond_t rfl (.tmp rfl) (decide_eq_true hc5) ?_
      refine q_skipc rfl ?_
      refine q_seq rfl ?_
      refine q_block rfl ?_
      refine q_region rfl rfl ?_
      refine qS 32 rfl (ok_move · (.tmp rfl)) ?_
      refine qS 33 rfl (ok_move · (.tmp rfl)) ?_
      obtain ⟨p6, hp6, h⟩ := leto h
      refine qS 34 rfl (ok_buildSlice_s (xs := [(.const (.string ⟨#[35, 114]⟩))]) el30 · rfl rfl (by decide) (.cons (.str _) Evs.nil) rfl rfl hp6) ?_
      obtain ⟨p7, hp7, h⟩ := bindo h
      refine q_call (dst := some 35) rfl (.func _) (.cons (.tmp rfl) (.cons (.tmp rfl) (.cons (.str _) (.cons (.tmp rfl) Evs.nil)))) (HInv.static rollcalltop_said.at_ rollcalltop_said.body (rollcalltop_said.snd  hp7)) ?_
      rintro _ _ ⟨rfl, rfl⟩
      refine hr_region_end ?_
      try dsimp only [w0, w1, w2, w3]
      refine hr_inBlock ?_
      refine q_region rfl rfl ?_
      refine qS 30 rfl (ok_move · (.tmp rfl)) ?_
      refine qS 31 rfl (ok_ibin · (.tmp rfl) (.int _ _) rfl) ?_
      refine qS 7 rfl (ok_assign · (.tmp rfl)) ?_
      refine hr_region_end ?_
      try dsimp only [w0, w1, w2, w3]
      try dsimp only [w0, w1, w2, w3]
      exact ih h
    · refine q_cond_f rfl (.tmp rfl) (decide_eq_false hc5) ?_
      refine q_exit rfl rfl ?_
      refine q_seq rfl ?_
      refine q_region rfl rfl ?_
      refine qS 36 rfl (ok_move · (.tmp rfl)) ?_
      refine qS 37 rfl (ok_conv_int · tu5 tu3 (.tmp rfl)) ?_
      refine qS 38 rfl (ok_rem · (.tmp rfl) (.int _ _) (by decide)) ?_
      refine qS 39 rfl (ok_ibin · (.int _ _) (.tmp rfl) rfl) ?_
      try dsimp only [w0, w1, w2, w3]
      refine qS 40 rfl (ok_move · (.tmp rfl)) ?_
      refine qS 41 rfl (ok_conv_int · tu5 tu3 (.tmp rfl)) ?_
      refine qS 42 rfl (ok_rem · (.tmp rfl) (.int _ _) (by decide)) ?_
      refine qS 43 rfl (ok_ibin · (.int _ _) (.tmp rfl) rfl) ?_
      try dsimp only [w0, w1, w2, w3]
      refine qS 8 rfl (ok_assign · (.tmp rfl)) ?_
      refine qS 9 rfl (ok_assign · (.tmp rfl)) ?_
      refine hr_region_end ?_
      try dsimp only [w0, w1, w2, w3]
      refine q_seq rfl ?_
      refine q_seq rfl ?_
      refine q_region rfl rfl ?_
      refine qS 10 rfl (ok_assign · (.int _ _)) ?_
      refine hr_region_end ?_
      try dsimp only [w0, w1, w2, w3]
      refine q_block rfl ?_
      refine q_loop rfl ?_
      try dsimp only [w0, w1, w2, w3]
      exact L1_snd  h
def f (k : Nat) (x0 : Int) (x1 : Int) (S : HS) : Option ((Bool) × HS) :=
  (Option.bind (rollcalltop_awake.f S) fun p1 =>
  (if (!p1.1) = true then
  some (false, p1.2) else
  (Option.bind (rollcalltop_made.f 4 p1.2) fun p3 =>
  (if (!p3.1.2) = true then
  some (false, p3.2) else
  L0 k k x0 x1 p3.1.1 1 p3.2))))
theorem snd {k : Nat} {x0 : Int} {x1 : Int} {S : HS}  {p : (Bool) × HS} (h : f k x0 x1 S = some p) : HCall Tryz.prog base W0 β0 5 [(.int .u8 x0), (.int .u8 x1)] S (fun v S1 => v = (.bool p.1) ∧ S1 = p.2) := by
  unfold f at h
  refine HCall.of_run at_.at_ body ?_
  show HRun Tryz.prog base W0 β0 5 none [.code c0] ⟨[(.int .u8 x0), (.int .u8 x1), τ, τ, τ, τ, τ, τ, τ, τ, τ, τ, τ, τ, τ, τ, τ, τ, τ, τ, τ, τ, τ, τ, τ, τ, τ, τ, τ, τ, τ, τ, τ, τ, τ, τ, τ, τ, τ, τ, τ, τ, τ, τ, τ, τ, τ, τ, τ, τ, τ, τ, τ, τ, τ, τ, τ, τ, τ, τ, τ, τ, τ, τ, τ, τ, τ, τ, τ, τ, τ, τ, τ, τ, τ, τ, τ, τ, τ, τ, τ, τ, τ, τ, τ, τ, τ, τ, τ, τ, τ, τ, τ, τ, τ, τ, τ, τ, τ, τ, τ, τ, τ, τ, τ, τ, τ, τ, τ, τ, τ, τ, τ, τ, τ, τ, τ, τ], []⟩ S _
  refine q_seq rfl ?_
  refine q_region rfl rfl ?_
  refine qS 4 rfl (ok_assign · (.bool _)) ?_
  refine hr_region_end ?_
  try dsimp only [w0, w1, w2, w3]
  refine q_seq rfl ?_
  refine q_seq rfl ?_
  refine q_region rfl rfl ?_
  obtain ⟨p1, hp1, h⟩ := bindo h
  refine q_call (dst := some 20) rfl (.func _) Evs.nil (HInv.static rollcalltop_awake.at_ rollcalltop_awake.body (rollcalltop_awake.snd  hp1)) ?_
  rintro _ _ ⟨rfl, rfl⟩
  refine qS 21 rfl (ok_not · (.tmp rfl)) ?_
  refine hr_region_end ?_
  try dsimp only [w0, w1, w2, w3]
  rcases ifc h with ⟨hc2, h⟩ | ⟨hc2, h⟩
  · refine q_cond_t rfl (.tmp rfl) hc2 ?_
    refine q_seq rfl ?_
    refine q_region rfl rfl ?_
    refine qS 4 rfl (ok_assign · (.bool _)) ?_
    refine hr_region_end ?_
    try dsimp only [w0, w1, w2, w3]
    cases h
    exact q_ret rfl at_.at_ rfl (res1 rfl rfl) ⟨rfl, rfl⟩
  · refine q_cond_f rfl (.tmp rfl) (bfalse hc2) ?_
    refine q_skipc rfl ?_
    refine q_seq rfl ?_
    refine q_region rfl rfl ?_
    obtain ⟨p3, hp3, h⟩ := bindo h
    refine q_call (dst := some 23) rfl (.func _) (.cons (.int _ _) Evs.nil) (HInv.static rollcalltop_made.at_ rollcalltop_made.body (rollcalltop_made.snd  hp3)) ?_
    rintro _ _ ⟨rfl, rfl⟩
    refine qS 22 rfl (ok_move · (.tmp rfl)) ?_
    refine qS 24 rfl (ok_extract · (.tmp rfl) rfl) ?_
    refine qS 25 rfl (ok_extract · (.tmp rfl) rfl) ?_
    try dsimp only [w0, w1, w2, w3]
    refine qS 5 rfl (ok_assign · (.tmp rfl)) ?_
    refine qS 6 rfl (ok_assign · (.tmp rfl)) ?_
    refine hr_region_end ?_
    try dsimp only [w0, w1, w2, w3]
    refine q_seq rfl ?_
    refine q_seq rfl ?_
    refine q_region rfl rfl ?_
    refine qS 26 rfl (ok_move · (.tmp rfl)) ?_
    refine qS 27 rfl (ok_not · (.tmp rfl)) ?_
    refine hr_region_end ?_
    try dsimp only [w0, w1, w2, w3]
    rcases ifc h with ⟨hc4, h⟩ | ⟨hc4, h⟩
    · refine q_cond_t rfl (.tmp rfl) hc4 ?_
      refine q_seq rfl ?_
      refine q_region rfl rfl ?_
      refine qS 4 rfl (ok_assign · (.bool _)) ?_
      refine hr_region_end ?_
      try dsimp only [w0, w1, w2, w3]
      cases h
      exact q_ret rfl at_.at_ rfl (res1 rfl rfl) ⟨rfl, rfl⟩
    · refine q_cond_f rfl (.tmp rfl) (bfalse hc4) ?_
      refine q_skipc rfl ?_
      refine q_seq rfl ?_
      refine q_seq rfl ?_
      refine q_region rfl rfl ?_
      refine qS 7 rfl (ok_assign · (.int _ _)) ?_
      refine hr_region_end ?_
      try dsimp only [w0, w1, w2, w3]
      refine q_block rfl ?_
      refine q_loop rfl ?_
      try dsimp only [w0, w1, w2, w3]
      exact L0_snd  h
end
end rollcalltop_WholeKick
end
end Go.Proofs.YtfningkbcfhheaaGreatDoor.X
namespace Go.Proofs.YtfningkbcfhheaaGreatDoor.X
open Go.Proofs.YtfningkbcfhheaaGreatDoor.HL
set_option linter.unusedVariables false
set_option maxRecDepth 100000
theorem of_fst {α : Type} {o : Option (Bool × α)} (h : o.map (·.1) = some true) : ∃ s, o = some (true, s) := by
  cases o with
  | none => cases h
  | some p => obtain ⟨b, s⟩ := p; simp only [Option.map_some, Option.some.injEq] at h; subst h; exact ⟨s, rfl⟩
theorem u8_range {n : Int} (w : (Lit.int .u8 n).wf = true) : 0 ≤ n ∧ n < 256 := by
  have hn : 0 ≤ n ∧ n ≤ 255 := by simpa [Lit.wf, IntKind.min, IntKind.max, IntKind.signed, IntKind.bits] using w
  omega
theorem L0_mod (k : Nat) {y0 y1 z0 z1 : Int} (h0 : Int.tmod (w64 y0) 3 = Int.tmod (w64 z0) 3) (h1 : Int.tmod (w64 y1) 3 = Int.tmod (w64 z1) 3) : ∀ (n : Nat) (y5 : Option HA) (y7 : Int) (S : HS), rollcalltop_WholeKick.L0 k n y0 y1 y5 y7 S = rollcalltop_WholeKick.L0 k n z0 z1 y5 y7 S := by
  intro n
  induction n with
  | zero => intro y5 y7 S; rfl
  | succ n ih =>
    intro y5 y7 S
    have e : rollcalltop_WholeKick.L0 k n y0 y1 = rollcalltop_WholeKick.L0 k n z0 z1 := by funext y5 y7 S; exact ih y5 y7 S
    unfold rollcalltop_WholeKick.L0
    rw [e, h0, h1]
theorem kick_mod (k : Nat) {y0 y1 z0 z1 : Int} (h0 : Int.tmod (w64 y0) 3 = Int.tmod (w64 z0) 3) (h1 : Int.tmod (w64 y1) 3 = Int.tmod (w64 z1) 3) (S : HS) : rollcalltop_WholeKick.f k y0 y1 S = rollcalltop_WholeKick.f k z0 z1 S := by
  unfold rollcalltop_WholeKick.f
  simp only [L0_mod k h0 h1]
theorem kick9 (a b : Fin 3) : ∃ S', rollcalltop_WholeKick.f 1000 (a.val : Int) (b.val : Int) S0 = some (true, S') := by
  match a, b with
  | 0, 0 => exact of_fst (by kernel_rfl)
  | 0, 1 => exact of_fst (by kernel_rfl)
  | 0, 2 => exact of_fst (by kernel_rfl)
  | 1, 0 => exact of_fst (by kernel_rfl)
  | 1, 1 => exact of_fst (by kernel_rfl)
  | 1, 2 => exact of_fst (by kernel_rfl)
  | 2, 0 => exact of_fst (by kernel_rfl)
  | 2, 1 => exact of_fst (by kernel_rfl)
  | 2, 2 => exact of_fst (by kernel_rfl)
theorem kick_spec (x y : Int) (hx : 0 ≤ x ∧ x < 256) (hy : 0 ≤ y ∧ y < 256) : ∃ S', rollcalltop_WholeKick.f 1000 x y S0 = some (true, S') := by
  have key : ∀ z : Int, 0 ≤ z ∧ z < 256 → ∃ a : Fin 3, Int.tmod (w64 z) 3 = Int.tmod (w64 (a.val : Int)) 3 := fun z hz => by
    have h3 : (z % 3).toNat < 3 := by omega
    refine ⟨⟨(z % 3).toNat, h3⟩, ?_⟩
    rw [w64_id (by omega) (by omega), w64_id (by simp only; omega) (by simp only; omega), Int.tmod_eq_emod_of_nonneg hz.1, Int.tmod_eq_emod_of_nonneg (by simp only; omega)]
    simp only
    omega
  obtain ⟨a, ha⟩ := key x hx
  obtain ⟨b, hb⟩ := key y hy
  rw [kick_mod 1000 ha hb]
  exact kick9 a b
theorem wholeKick_call (W : World) (a : Int) (w0 : (Lit.int .u8 a).wf = true) (b : Int) (w1 : (Lit.int .u8 b).wf = true) : HCall Tryz.prog W.heap.size W B0 5 [.int .u8 a, .int .u8 b] S0 (fun v _ => v = .bool true) :=
  let ⟨_, h⟩ := kick_spec a b (u8_range w0) (u8_range w1)
  (rollcalltop_WholeKick.snd h).mono fun _ _ h => h.1
end Go.Proofs.YtfningkbcfhheaaGreatDoor.X
