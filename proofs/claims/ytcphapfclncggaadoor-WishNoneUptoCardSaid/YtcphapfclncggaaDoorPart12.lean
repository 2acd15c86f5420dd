/- Functions of the program, each as a Lean function over the layer HL: a call answers what the Lean function answers, where it answers. Sets, what is common to all. Sets of int, plain. Sets of string, plain. Sets of int, what is told, plain. Sets of string, what is told, plain. Maps of sets, keys of int, things of string, plain. Maps of sets, keys of string, things of int, plain. -/
import Derived.Test.YtcphapfclncggaaDoorProg
import Derived.Test.YtcphapfclncggaaDoorPart11
namespace Go.Proofs.YtcphapfclncggaaDoor.X
open Go.Proofs.YtcphapfclncggaaDoor.HL
set_option linter.unusedVariables false
set_option linter.unusedSimpArgs false
set_option maxRecDepth 20000
set_option maxHeartbeats 4000000
namespace rollcallref10_Has
theorem at_ : FnAt Tryd.prog 17 Tryd.f17 := ⟨Tryd.func17,by kernel_rfl⟩
noncomputable def d0 := (Tryd.f17.body).getD .skip
noncomputable def r1 := kR (kA d0)
noncomputable def r4 := kR (kA (kA (kB d0)))
noncomputable def d5 := kB (kA (kB d0))
noncomputable def r9 := kR (kA (kA (kA (kA d5))))
noncomputable def d15 := kA (kA (kB (kA (kA d5))))
noncomputable def r16 := kR (kA d15)
noncomputable def r19 := kR (kA (kA (kB d15)))
noncomputable def r22 := kR (kB (kB (kA (kA d5))))
noncomputable def r24 := kR (kA (kB (kB d0)))
noncomputable def c23 : Code := .seq (.region 6 r24 false) .ret
noncomputable def c7 : Code := .seq (.seq (.region 2 r9 false) (.cond (.tmp 9) .skip (.exit 0))) (.seq (.block 1 (.seq (.region 4 r16 false) (.cond (.tmp 17) (.seq (.region 5 r19 false) .ret) .skip))) (.region 3 r22 false))
noncomputable def c0 : Code := .seq (.region 0 r1 false) (.seq (.seq (.region 1 r4 false) (.block 0 (.loop c7))) c23)
theorem body : Tryd.f17.body = some c0 := by kernel_rfl
section
variable {base : Nat} {W0 : World} {β0 : Bt}
def L0 (k : Nat) : Nat → Sl → Int → Int → HS → Option ((Bool) × HS)
 | 0,_,_,_,_ => none
 | n + 1,y0,y1,y5,S =>
  (if y5 < (Sl.len y0 : Int) then
  (Option.bind (HS.idx S y0 y5 1) fun p2 =>
  (Option.bind (HS.ldI S .i64 p2) fun p3 =>
  (if p3 = y1 then
  some (true,S) else
  (L0 k n) y0 y1 (w64 (y5 + 1)) S))) else
  some (false,S))
theorem L0_snd {k : Nat}  : ∀ {n : Nat} ⦃y0 : Sl⦄ ⦃y1 : Int⦄ ⦃y5 : Int⦄ ⦃S : HS⦄ ⦃p : (Bool) × HS⦄ ⦃Gc Gd Ge Gg Gh Gi Gj Gk Gl Gm Gn Go Gp Gq Gr : HV⦄,L0 k n y0 y1 y5 S = some p → HRun Tryd.prog base W0 β0 17 none [.inLoop c7,.inBlock 0,.code c23] ⟨[(Sl.hv y0),(.int .i64 y1),Gc,Gd,Ge,(.int .i64 y5),Gg,Gh,Gi,Gj,Gk,Gl,Gm,Gn,Go,Gp,Gq,Gr],[]⟩ S (fun v S1 => v = (.bool p.1) ∧ S1 = p.2) := by
 intro n
 induction n with
 | zero => intro _ _ _ _ _ _ _ _ _ _ _ _ _ _ _ _ _ _ _ _ h; cases h
 | succ n ih =>
  intro y0 y1 y5 S p Gc Gd Ge Gg Gh Gi Gj Gk Gl Gm Gn Go Gp Gq Gr h
  simp only [L0] at h
  refine hr_inLoop (qQ rfl (qQ rfl (qR rfl rfl (qS 6 rfl (oM · rfl) (qS 7 rfl (oM · rfl) (qS 8 rfl (ok_len_sl (q := Sl.a y0) (n := Sl.len y0) (z := Sl.cap y0) · rfl tu41 (.tmp rfl)) (qS 9 rfl (oB · rfl rfl rfl) (rE ?_))))))))
  try dsimp only [w0,w1,w2,w3]
  rcases ifc h with ⟨hc1,h⟩ | ⟨hc1,h⟩
  ·obtain ⟨p2,hp2,h⟩ := bindo h
   obtain ⟨p3,hp3,h⟩ := bindo h
   refine q_cond_t rfl (.tmp rfl) (decide_eq_true hc1) (q_skipc rfl (qQ rfl (q_block rfl (qQ rfl (qR rfl rfl (qS 12 rfl (oM · rfl) (qS 13 rfl (oM · rfl) (qS 14 rfl (oX (s := y0) · tu41 sz3 rfl rfl hp2) (qS 15 rfl (oL · sc3 rfl rfl (ldI_out hp3)) ?_)))))))))
   try dsimp only [w0,w1,w2,w3]
   refine qS 16 rfl (oM · rfl) (qS 17 rfl (oB · rfl rfl rfl) (rE ?_))
   try dsimp only [w0,w1,w2,w3]
   rcases ifc h with ⟨hc4,h⟩ | ⟨hc4,h⟩
   ·refine q_cond_t rfl (.tmp rfl) (decide_eq_true hc4) (qQ rfl (qR rfl rfl (qS 4 rfl (ok_assign · (.bool _)) (rE ?_))))
    try dsimp only [w0,w1,w2,w3]
    cases h
    exact q_ret rfl at_.at_ rfl (res1 rfl rfl) ⟨rfl,rfl⟩
   ·refine q_cond_f rfl (.tmp rfl) (decide_eq_false hc4) (q_skipc rfl (hr_inBlock (qR rfl rfl (qS 10 rfl (oM · rfl) (qS 11 rfl (oC · rfl rfl) (qS 5 rfl (oA · rfl) (rE ?_)))))))
    try dsimp only [w0,w1,w2,w3]
    try dsimp only [w0,w1,w2,w3]
    exact ih h
  ·refine q_cond_f rfl (.tmp rfl) (decide_eq_false hc1) (q_exit rfl rfl (qQ rfl (qR rfl rfl (qS 4 rfl (ok_assign · (.bool _)) (rE ?_)))))
   try dsimp only [w0,w1,w2,w3]
   cases h
   exact q_ret rfl at_.at_ rfl (res1 rfl rfl) ⟨rfl,rfl⟩
def f (k : Nat) (x0 : Sl) (x1 : Int) (S : HS) : Option ((Bool) × HS) :=
 L0 k k x0 x1 0 S
theorem snd {k : Nat} {x0 : Sl} {x1 : Int} {S : HS}  {p : (Bool) × HS} (h : f k x0 x1 S = some p) : HCall Tryd.prog base W0 β0 17 [(Sl.hv x0),(.int .i64 x1)] S (fun v S1 => v = (.bool p.1) ∧ S1 = p.2) := by
 unfold f at h
 refine HCall.of_run at_.at_ body ?_
 show HRun Tryd.prog base W0 β0 17 none [.code c0] ⟨[(Sl.hv x0),(.int .i64 x1),τ,τ,τ,τ,τ,τ,τ,τ,τ,τ,τ,τ,τ,τ,τ,τ],[]⟩ S _
 refine qQ rfl (qR rfl rfl (qS 4 rfl (ok_assign · (.bool _)) (rE ?_)))
 try dsimp only [w0,w1,w2,w3]
 refine qQ rfl (qQ rfl (qR rfl rfl (qS 5 rfl (ok_assign · (.int _ _)) (rE ?_))))
 try dsimp only [w0,w1,w2,w3]
 refine q_block rfl (q_loop rfl ?_)
 try dsimp only [w0,w1,w2,w3]
 exact L0_snd  h
end
end rollcallref10_Has
namespace wish_Lists_Has
theorem at_ : FnAt Tryd.prog 18 Tryd.f18 := ⟨Tryd.func18,by kernel_rfl⟩
noncomputable def d0 := (Tryd.f18.body).getD .skip
noncomputable def r1 := kR (kA d0)
noncomputable def r3 := kR (kA (kB d0))
noncomputable def c0 : Code := .seq (.region 0 r1 false) (.seq (.region 1 r3 true) .ret)
theorem body : Tryd.f18.body = some c0 := by kernel_rfl
section
variable {base : Nat} {W0 : World} {β0 : Bt}
def f (k : Nat) (x0 : (Option HA)) (x1 : Int) (x2 : (List UInt8)) (S : HS) : Option ((Bool) × HS) :=
 (if (!Option.isNone x0) = true then
 (Option.bind (x0) fun p2 =>
 (Option.bind (HS.ldP S (HA.fld p2 0)) fun p3 =>
 (Option.bind (fold_Text.f k x2 S) fun p4 =>
 (Option.bind (HS.ldP p4.2 (HA.fld p2 0)) fun p5 =>
 (if p5 = p3 then
 (Option.bind (pair_Rel_int_string_Has.f k p3 x1 p4.1 p4.2) fun p7 =>
 some (p7.1,p7.2)) else none))))) else
 some (false,S))
theorem snd {k : Nat} {x0 : (Option HA)} {x1 : Int} {x2 : (List UInt8)} {S : HS}  {p : (Bool) × HS} (h : f k x0 x1 x2 S = some p) : HCall Tryd.prog base W0 β0 18 [(.ptr x0),(.int .i64 x1),(.str x2)] S (fun v S1 => v = (.bool p.1) ∧ S1 = p.2) := by
 unfold f at h
 refine HCall.of_run at_.at_ body ?_
 show HRun Tryd.prog base W0 β0 18 none [.code c0] ⟨[(.ptr x0),(.int .i64 x1),(.str x2),τ,τ,τ,τ,τ,τ,τ,τ,τ,τ,τ,τ,τ,τ,τ,τ],[]⟩ S _
 refine qQ rfl (qR rfl rfl (qS 6 rfl (ok_assign · (.bool _)) (rE ?_)))
 try dsimp only [w0,w1,w2,w3]
 refine qQ rfl ?_
 refine x_start (cls := [0,0,0,0,0,0,3,0,0,2,2,0,0]) (rk := [0,1,2,3,4,5,6,7,8,9,10,11,12]) rfl (by kernel_rfl) ?_
 refine xf 7 [0] rfl (oM · rfl) ?_
 refine xf 8 [7] rfl (ok_nil_ptr · tu34 (.tmp rfl) (.inr ⟨rfl,rfl⟩)) ?_
 refine xf 9 [8] rfl (oM · rfl) ?_
 rcases ifc h with ⟨hc1,h⟩ | ⟨hc1,h⟩
 ·refine xfg 10 9 [0,9] rfl hc1 (oM · rfl) ?_
  try dsimp only [w0,w1,w2,w3]
  obtain ⟨p2,hp2,h⟩ := bindo h
  refine xfg 11 9 [10,9] rfl hc1 (oN · rfl hp2) ?_
  refine xfg 12 9 [11,9] rfl hc1 (oF · fi60_0 (by decide) rfl rfl) ?_
  obtain ⟨p3,hp3,h⟩ := bindo h
  refine x_late (r_op_g (dst := some 13) (t := 9) (ts := [12,9]) rfl (by intro _ _ h; cases h) (by kernel_rfl) rfl rfl hc1 (fun _ ho => ok_load_s ho sc55 (.tmp rfl) rfl (ldP_out hp3))) rfl trivial ?_
  refine xfg 14 9 [1,9] rfl hc1 (oM · rfl) ?_
  try dsimp only [w0,w1,w2,w3]
  refine xfg 15 9 [2,9] rfl hc1 (oM · rfl) ?_
  obtain ⟨p4,hp4,h⟩ := bindo h
  obtain ⟨p5,hp5,h⟩ := bindo h
  obtain ⟨hg6,h⟩ := gd h
  refine x_goE (e_call_g (dst := some 16) (t := 9) (ts := [15,9]) rfl (by kernel_rfl) rfl rfl hc1 (.func _) (.cons (.tmp rfl) Evs.nil) (HInv.static fold_Text.at_ fold_Text.body (fold_Text.snd  hp4))) rfl ⟨.inr (l_op_g (dst := some 13) (t := 9) (ts := [12,9]) rfl (by intro _ _ h; cases h) (by kernel_rfl) rfl rfl hc1 (fun _ ho => ok_load_s ho sc55 (.tmp rfl) rfl (ldP_out (hp5.trans (congrArg some hg6))))),trivial⟩ ?_
  obtain ⟨p7,hp7,h⟩ := bindo h
  refine x_goE (e_call_g (dst := some 17) (t := 9) (ts := [13,14,16,9]) rfl (by kernel_rfl) rfl rfl hc1 (.func _) (.cons (.tmp rfl) (.cons (.tmp rfl) (.cons (.tmp rfl) Evs.nil))) (HInv.static pair_Rel_int_string_Has.at_ pair_Rel_int_string_Has.body (pair_Rel_int_string_Has.snd  hp7))) rfl ⟨.inl (by kernel_rfl),trivial⟩ ?_
  refine xf 18 [9,17] rfl (ok_pick_tt · (.tmp rfl) hc1 (.tmp rfl)) ?_
  try dsimp only [w0,w1,w2,w3]
  refine xf 6 [18] rfl (oA · rfl) ?_
  refine x_rest rfl ?_
  refine rE ?_
  try dsimp only [w0,w1,w2,w3]
  cases h
  exact q_ret rfl at_.at_ rfl (res1 rfl rfl) ⟨rfl,rfl⟩
 ·refine xfs 10 9 [0,9] rfl (bfalse hc1) ?_
  try dsimp only [w0,w1,w2,w3]
  refine xfs 11 9 [10,9] rfl (bfalse hc1) ?_
  refine xfs 12 9 [11,9] rfl (bfalse hc1) ?_
  refine x_late (r_skip (dst := some 13) (t := 9) (ts := [12,9]) rfl (by kernel_rfl) rfl rfl (bfalse hc1)) rfl trivial ?_
  refine xfs 14 9 [1,9] rfl (bfalse hc1) ?_
  try dsimp only [w0,w1,w2,w3]
  refine xfs 15 9 [2,9] rfl (bfalse hc1) ?_
  refine zes 16 9 [15,9] rfl (bfalse hc1) ⟨.inr (l_skip (dst := some 13) (t := 9) (ts := [12,9]) rfl (by kernel_rfl) rfl rfl (bfalse hc1)),trivial⟩ ?_
  refine zes 17 9 [13,14,16,9] rfl (bfalse hc1) ⟨.inl (by kernel_rfl),trivial⟩ ?_
  refine xf 18 [9,17] rfl (ok_pick_ff · (.tmp rfl) (bfalse hc1) (.bool _)) ?_
  try dsimp only [w0,w1,w2,w3]
  refine xf 6 [18] rfl (oA · rfl) ?_
  refine x_rest rfl ?_
  refine rE ?_
  try dsimp only [w0,w1,w2,w3]
  cases h
  exact q_ret rfl at_.at_ rfl (res1 rfl rfl) ⟨rfl,rfl⟩
end
end wish_Lists_Has
namespace pair_Rel_int_string_Of_1
theorem at_ : FnAt Tryd.prog 72 Tryd.f72 := ⟨Tryd.func72,by kernel_rfl⟩
noncomputable def c0 : Code := .skip
theorem body : Tryd.f72.body = some c0 := by kernel_rfl
section
variable {base : Nat} {W0 : World} {β0 : Bt}
def f (x0 : HV) : Option (Unit) :=
 some ()
theorem snd {x0 : HV} {S : HS}  {p : Unit} (h : f x0 = some p) : HCall Tryd.prog base W0 β0 72 [x0] S (fun v S1 => v = (.tup []) ∧ S1 = S) := by
 unfold f at h
 refine HCall.of_run at_.at_ body ?_
 show HRun Tryd.prog base W0 β0 72 none [.code c0] ⟨[x0,τ],[]⟩ S _
 cases h
 exact q_skipc rfl (q_end at_.at_ rfl (res0 rfl) ⟨rfl,rfl⟩)
end
end pair_Rel_int_string_Of_1
namespace slices_Clone_string_string
theorem at_ : FnAt Tryd.prog 106 Tryd.f106 := ⟨Tryd.func106,by kernel_rfl⟩
noncomputable def d0 := (Tryd.f106.body).getD .skip
noncomputable def r1 := kR (kA d0)
noncomputable def r4 := kR (kA (kA (kB d0)))
noncomputable def r7 := kR (kA (kA (kB (kA (kB d0)))))
noncomputable def r11 := kR (kA (kB (kB d0)))
noncomputable def c0 : Code := .seq (.region 0 r1 false) (.seq (.seq (.region 1 r4 false) (.cond (.tmp 4) (.seq (.region 2 r7 false) .ret) .skip)) (.seq (.region 3 r11 false) .ret))
theorem body : Tryd.f106.body = some c0 := by kernel_rfl
section
variable {base : Nat} {W0 : World} {β0 : Bt}
def f (x0 : Sl) (S : HS) : Option ((Sl) × HS) :=
 (if (Option.isNone (Sl.a x0)) = true then
 some (Sl.nil,S) else
 (letv (HS.lit S [] 1) fun p2 =>
 (Option.bind (HS.rows (p2.2) x0 1) fun p3 =>
 (Option.bind (HS.app (p2.2) (p2.1) p3 1) fun p4 =>
 some ((p4.1),(p4.2))))))
theorem snd {x0 : Sl} {S : HS}  {p : (Sl) × HS} (h : f x0 S = some p) : HCall Tryd.prog base W0 β0 106 [(Sl.hv x0)] S (fun v S1 => v = (Sl.hv p.1) ∧ S1 = p.2) := by
 unfold f at h
 refine HCall.of_run at_.at_ body ?_
 show HRun Tryd.prog base W0 β0 106 none [.code c0] ⟨[(Sl.hv x0),τ,τ,τ,τ,τ,τ,τ],[]⟩ S _
 refine qQ rfl (qR rfl rfl (qS 2 rfl (ok_assign · (.const fun _ => .slNil none)) (rE ?_)))
 try dsimp only [w0,w1,w2,w3]
 refine qQ rfl (qQ rfl (qR rfl rfl (qS 3 rfl (oM · rfl) (qS 4 rfl (ok_nil_sl · tu22 (.tmp rfl) (.inl ⟨rfl,rfl⟩)) (rE ?_)))))
 try dsimp only [w0,w1,w2,w3]
 rcases ifc h with ⟨hc1,h⟩ | ⟨hc1,h⟩
 ·refine q_cond_t rfl (.tmp rfl) hc1 (qQ rfl (qR rfl rfl (qS 2 rfl (ok_assign · (.const fun _ => .slNil none)) (rE ?_))))
  try dsimp only [w0,w1,w2,w3]
  cases h
  exact q_ret rfl at_.at_ rfl (res1 rfl rfl) ⟨rfl,rfl⟩
 ·obtain ⟨p2,hp2,h⟩ := leto h
  obtain ⟨p3,hp3,h⟩ := bindo h
  obtain ⟨p4,hp4,h⟩ := bindo h
  refine q_cond_f rfl (.tmp rfl) (bfalse hc1) (q_skipc rfl (qQ rfl (qR rfl rfl (qS 5 rfl (ok_buildSlice_s (xs := []) el22 · rfl rfl (by decide) Evs.nil rfl rfl hp2) (qS 6 rfl (oM · rfl) (qS 7 rfl (ok_append (s := (p2.1)) (s1 := x0) el22 · rfl rfl ⟨_,tu22⟩ (.tmp rfl) (.tmp rfl) hp3 hp4) (qS 2 rfl (oA · rfl) (rE ?_))))))))
  try dsimp only [w0,w1,w2,w3]
  cases h
  exact q_ret rfl at_.at_ rfl (res1 rfl rfl) ⟨rfl,rfl⟩
end
end slices_Clone_string_string
namespace set_Set_string_List
theorem at_ : FnAt Tryd.prog 91 Tryd.f91 := ⟨Tryd.func91,by kernel_rfl⟩
noncomputable def d0 := (Tryd.f91.body).getD .skip
noncomputable def r1 := kR (kA d0)
noncomputable def r4 := kR (kA (kA (kB d0)))
noncomputable def r7 := kR (kA (kA (kB (kA (kB d0)))))
noncomputable def r11 := kR (kA (kB (kB d0)))
noncomputable def c0 : Code := .seq (.region 0 r1 false) (.seq (.seq (.region 1 r4 false) (.cond (.tmp 4) (.seq (.region 2 r7 false) .ret) .skip)) (.seq (.region 3 r11 false) .ret))
theorem body : Tryd.f91.body = some c0 := by kernel_rfl
section
variable {base : Nat} {W0 : World} {β0 : Bt}
def f (x0 : (Option HA)) (S : HS) : Option ((Sl) × HS) :=
 (if (Option.isNone x0) = true then
 some (Sl.nil,S) else
 (Option.bind (x0) fun p2 =>
 (Option.bind (HS.ldSl S (HA.fld p2 0)) fun p3 =>
 (Option.bind (slices_Clone_string_string.f p3 S) fun p4 =>
 some (p4.1,p4.2)))))
theorem snd {x0 : (Option HA)} {S : HS}  {p : (Sl) × HS} (h : f x0 S = some p) : HCall Tryd.prog base W0 β0 91 [(.ptr x0)] S (fun v S1 => v = (Sl.hv p.1) ∧ S1 = p.2) := by
 unfold f at h
 refine HCall.of_run at_.at_ body ?_
 show HRun Tryd.prog base W0 β0 91 none [.code c0] ⟨[(.ptr x0),τ,τ,τ,τ,τ,τ,τ,τ,τ],[]⟩ S _
 refine qQ rfl (qR rfl rfl (qS 2 rfl (ok_assign · (.const fun _ => .slNil none)) (rE ?_)))
 try dsimp only [w0,w1,w2,w3]
 refine qQ rfl (qQ rfl (qR rfl rfl (qS 3 rfl (oM · rfl) (qS 4 rfl (ok_nil_ptr · tu85 (.tmp rfl) (.inl ⟨rfl,rfl⟩)) (rE ?_)))))
 try dsimp only [w0,w1,w2,w3]
 rcases ifc h with ⟨hc1,h⟩ | ⟨hc1,h⟩
 ·refine q_cond_t rfl (.tmp rfl) hc1 (qQ rfl (qR rfl rfl (qS 2 rfl (ok_assign · (.const fun _ => .slNil none)) (rE ?_))))
  try dsimp only [w0,w1,w2,w3]
  cases h
  exact q_ret rfl at_.at_ rfl (res1 rfl rfl) ⟨rfl,rfl⟩
 ·obtain ⟨p2,hp2,h⟩ := bindo h
  obtain ⟨p3,hp3,h⟩ := bindo h
  refine q_cond_f rfl (.tmp rfl) (bfalse hc1) (q_skipc rfl (qQ rfl (qR rfl rfl (qS 5 rfl (oM · rfl) (qS 6 rfl (oN · rfl hp2) (qS 7 rfl (oF · fi101_0 (by decide) rfl rfl) (qS 8 rfl (oL · sc22 rfl rfl (ldSl_out hp3)) ?_)))))))
  try dsimp only [w0,w1,w2,w3]
  obtain ⟨p4,hp4,h⟩ := bindo h
  refine q_call (dst := some 9) rfl (.func _) (.cons (.tmp rfl) Evs.nil) (HInv.static slices_Clone_string_string.at_ slices_Clone_string_string.body (slices_Clone_string_string.snd  hp4)) ?_
  rintro _ _ ⟨rfl,rfl⟩
  refine qS 2 rfl (oA · rfl) (rE ?_)
  try dsimp only [w0,w1,w2,w3]
  cases h
  exact q_ret rfl at_.at_ rfl (res1 rfl rfl) ⟨rfl,rfl⟩
end
end set_Set_string_List
namespace slices_Values_string_string_1
theorem at_ : FnAt Tryd.prog 105 Tryd.f105 := ⟨Tryd.func105,by kernel_rfl⟩
noncomputable def d0 := (Tryd.f105.body).getD .skip
noncomputable def r1 := kR (kA d0)
noncomputable def d4 := kA (kA (kB d0))
noncomputable def r5 := kR (kA d4)
noncomputable def r13 := kR (kA (kA (kA (kB (kB d4)))))
noncomputable def r15 := kR (kA (kB (kA (kA (kB (kB d4))))))
noncomputable def r19 := kR (kB (kB (kB d4)))
noncomputable def c4 : Code := .seq (.region 1 r5 false) (.seq (.cond (.tmp 8) .skip (.exit 0)) (.seq (.block 1 (.seq (.region 2 r13 false) (.seq (.region 3 r15 false) (.cond (.tmp 14) .ret .skip)))) (.region 4 r19 false)))
noncomputable def c0 : Code := .seq (.region 0 r1 false) (.block 0 (.loop c4))
theorem body : Tryd.f105.body = some c0 := by kernel_rfl
section
variable {base : Nat} {W0 : World} {β0 : Bt}
def L0 (D : Dp) (H : Hd) (k : Nat) : Nat → HV → Sl → Int → Int → HS → Option ((Unit) × HS)
 | 0,_,_,_,_,_ => none
 | n + 1,y0,y5,y6,y7,S =>
  (if y7 < y6 then
  (Option.bind (HS.idx S y5 y7 1) fun p4 =>
  (Option.bind (HS.ldS S p4) fun p5 =>
  (Option.bind (D H y0 [(.str p5)] S) fun p6 =>
  (Option.bind (dB p6.1) fun p7 =>
  (if (!p7) = true then
  some ((),p6.2) else
  (L0 D H k n) y0 y5 y6 (w64 (y7 + 1)) p6.2))))) else
  some ((),S))
theorem L0_snd {D : Dp} {H : Hd} {k : Nat} (hD : DSound Tryd.prog base W0 D) (hH : HSound Tryd.prog base W0 β0 H)  : ∀ {n : Nat} ⦃y0 : HV⦄ ⦃y5 : Sl⦄ ⦃y6 : Int⦄ ⦃y7 : Int⦄ ⦃S : HS⦄ ⦃p : (Unit) × HS⦄ ⦃Gb Gc Gd Ge Gi Gj Gk Gl Gm Gn Go Gp : HV⦄,L0 D H k n y0 y5 y6 y7 S = some p → HRun Tryd.prog base W0 β0 105 none [.inLoop c4,.inBlock 0] ⟨[y0,Gb,Gc,Gd,Ge,(Sl.hv y5),(.int .i64 y6),(.int .i64 y7),Gi,Gj,Gk,Gl,Gm,Gn,Go,Gp],[]⟩ S (fun v S1 => v = (.tup []) ∧ S1 = p.2) := by
 intro n
 induction n with
 | zero => intro _ _ _ _ _ _ _ _ _ _ _ _ _ _ _ _ _ _ h; cases h
 | succ n ih =>
  intro y0 y5 y6 y7 S p Gb Gc Gd Ge Gi Gj Gk Gl Gm Gn Go Gp h
  simp only [L0] at h
  refine hr_inLoop (qQ rfl (qR rfl rfl (qS 8 rfl (oB · rfl rfl rfl) (rE ?_))))
  try dsimp only [w0,w1,w2,w3]
  refine qQ rfl ?_
  rcases ifc h with ⟨hc3,h⟩ | ⟨hc3,h⟩
  ·obtain ⟨p4,hp4,h⟩ := bindo h
   obtain ⟨p5,hp5,h⟩ := bindo h
   refine q_cond_t rfl (.tmp rfl) (decide_eq_true hc3) (q_skipc rfl (qQ rfl (q_block rfl (qQ rfl (qR rfl rfl (qS 9 rfl (oX (s := y5) · tu22 sz9 rfl rfl hp4) (qS 10 rfl (oL · sc9 rfl rfl (ldS_out hp5)) (qS 4 rfl (oA · rfl) (rE ?_)))))))))
   try dsimp only [w0,w1,w2,w3]
   obtain ⟨p6,hp6,h⟩ := bindo h
   obtain ⟨p7,hp7,h⟩ := bindo h
   refine qQ rfl (qR rfl rfl (qS 11 rfl (oM · rfl) (qS 12 rfl (oM · rfl) (q_call (dst := some 13) rfl (.tmp rfl) (.cons (.tmp rfl) Evs.nil) (hD _ _ hH _ _ _ _ _ hp6) ?_))))
   rintro _ _ ⟨rfl,rfl⟩
   rw [dB_out hp7]
   refine qS 14 rfl (ok_not · (.tmp rfl)) (rE ?_)
   try dsimp only [w0,w1,w2,w3]
   rcases ifc h with ⟨hc8,h⟩ | ⟨hc8,h⟩
   ·cases h
    exact q_cond_t rfl (.tmp rfl) hc8 (q_ret rfl at_.at_ rfl (res0 rfl) ⟨rfl,rfl⟩)
   ·refine q_cond_f rfl (.tmp rfl) (bfalse hc8) (q_skipc rfl (hr_inBlock (qR rfl rfl (qS 15 rfl (oC · rfl rfl) (qS 7 rfl (oM · rfl) (rE ?_))))))
    try dsimp only [w0,w1,w2,w3]
    try dsimp only [w0,w1,w2,w3]
    exact ih h
  ·cases h
   exact q_cond_f rfl (.tmp rfl) (decide_eq_false hc3) (q_exit rfl rfl (q_end at_.at_ rfl (res0 rfl) ⟨rfl,rfl⟩))
def f (D : Dp) (H : Hd) (k : Nat) (x0 : HV) (x1 : (Option HA)) (S : HS) : Option ((Unit) × HS) :=
 (Option.bind (x1) fun p1 =>
 (Option.bind (HS.ldSl S p1) fun p2 =>
 L0 D H k k x0 p2 (Sl.len p2 : Int) 0 S))
theorem snd {D : Dp} {H : Hd} {k : Nat} {x0 : HV} {x1 : (Option HA)} {S : HS} (hD : DSound Tryd.prog base W0 D) (hH : HSound Tryd.prog base W0 β0 H)  {p : (Unit) × HS} (h : f D H k x0 x1 S = some p) : HCall Tryd.prog base W0 β0 105 [x0,(.ptr x1)] S (fun v S1 => v = (.tup []) ∧ S1 = p.2) := by
 unfold f at h
 refine HCall.of_run at_.at_ body ?_
 show HRun Tryd.prog base W0 β0 105 none [.code c0] ⟨[x0,(.ptr x1),τ,τ,τ,τ,τ,τ,τ,τ,τ,τ,τ,τ,τ,τ],[]⟩ S _
 obtain ⟨p1,hp1,h⟩ := bindo h
 obtain ⟨p2,hp2,h⟩ := bindo h
 refine qQ rfl (qR rfl rfl (qS 5 rfl (oL · sc22 rfl hp1 (ldSl_out hp2)) (qS 6 rfl (ok_len_sl (q := Sl.a p2) (n := Sl.len p2) (z := Sl.cap p2) · rfl tu22 (.tmp rfl)) (qS 7 rfl (ok_move · (.int _ _)) (rE ?_)))))
 try dsimp only [w0,w1,w2,w3]
 refine q_block rfl (q_loop rfl ?_)
 try dsimp only [w0,w1,w2,w3]
 exact L0_snd hD hH h
end
end slices_Values_string_string_1
namespace slices_Values_string_string
theorem at_ : FnAt Tryd.prog 90 Tryd.f90 := ⟨Tryd.func90,by kernel_rfl⟩
noncomputable def d0 := (Tryd.f90.body).getD .skip
noncomputable def r1 := kR (kA d0)
noncomputable def r3 := kR (kA (kB d0))
noncomputable def c0 : Code := .seq (.region 0 r1 false) (.seq (.region 1 r3 false) .ret)
theorem body : Tryd.f90.body = some c0 := by kernel_rfl
section
variable {base : Nat} {W0 : World} {β0 : Bt}
def f (x0 : Sl) (S : HS) : Option ((HV) × HS) :=
 (letv (HS.new S (.cells 1 [[(Sl.hv x0)]] true)) fun p1 =>
 some ((HV.fn (.func 105) [] [(.ptr (some (HA.cell0 S.next)))]),p1))
theorem snd {x0 : Sl} {S : HS}  {p : (HV) × HS} (h : f x0 S = some p) : HCall Tryd.prog base W0 β0 90 [(Sl.hv x0)] S (fun v S1 => v = p.1 ∧ S1 = p.2) := by
 unfold f at h
 refine HCall.of_run at_.at_ body ?_
 show HRun Tryd.prog base W0 β0 90 none [.code c0] ⟨[(Sl.hv x0),τ,τ,τ],[]⟩ S _
 obtain ⟨p1,hp1,h⟩ := leto h
 refine qQ rfl (qR rfl rfl (qS 1 rfl (ok_box_e · (.tmp rfl) (Nat.zero_lt_succ _) rfl hp1) (qS 2 rfl (ok_assign · (.const fun _ => .nilFn)) (rE ?_))))
 try dsimp only [w0,w1,w2,w3]
 refine qQ rfl (qR rfl rfl (qS 3 rfl (ok_makeFunc · Evs.nil (.cons (.tmp rfl) Evs.nil)) (qS 2 rfl (oA · rfl) (rE ?_))))
 try dsimp only [w0,w1,w2,w3]
 cases h
 exact q_ret rfl at_.at_ rfl (res1 rfl rfl) ⟨rfl,rfl⟩
end
end slices_Values_string_string
namespace set_Set_string_All
theorem at_ : FnAt Tryd.prog 73 Tryd.f73 := ⟨Tryd.func73,by kernel_rfl⟩
noncomputable def d0 := (Tryd.f73.body).getD .skip
noncomputable def r1 := kR (kA d0)
noncomputable def r3 := kR (kA (kB d0))
noncomputable def c0 : Code := .seq (.region 0 r1 false) (.seq (.region 1 r3 false) .ret)
theorem body : Tryd.f73.body = some c0 := by kernel_rfl
section
variable {base : Nat} {W0 : World} {β0 : Bt}
def f (x0 : (Option HA)) (S : HS) : Option ((HV) × HS) :=
 (Option.bind (set_Set_string_List.f x0 S) fun p1 =>
 (Option.bind (slices_Values_string_string.f p1.1 p1.2) fun p2 =>
 some (p2.1,p2.2)))
theorem snd {x0 : (Option HA)} {S : HS}  {p : (HV) × HS} (h : f x0 S = some p) : HCall Tryd.prog base W0 β0 73 [(.ptr x0)] S (fun v S1 => v = p.1 ∧ S1 = p.2) := by
 unfold f at h
 refine HCall.of_run at_.at_ body ?_
 show HRun Tryd.prog base W0 β0 73 none [.code c0] ⟨[(.ptr x0),τ,τ,τ,τ,τ],[]⟩ S _
 refine qQ rfl (qR rfl rfl (qS 2 rfl (ok_assign · (.const fun _ => .nilFn)) (rE ?_)))
 try dsimp only [w0,w1,w2,w3]
 obtain ⟨p1,hp1,h⟩ := bindo h
 refine qQ rfl (qR rfl rfl (qS 3 rfl (oM · rfl) (q_call (dst := some 4) rfl (.func _) (.cons (.tmp rfl) Evs.nil) (HInv.static set_Set_string_List.at_ set_Set_string_List.body (set_Set_string_List.snd  hp1)) ?_)))
 rintro _ _ ⟨rfl,rfl⟩
 obtain ⟨p2,hp2,h⟩ := bindo h
 refine q_call (dst := some 5) rfl (.func _) (.cons (.tmp rfl) Evs.nil) (HInv.static slices_Values_string_string.at_ slices_Values_string_string.body (slices_Values_string_string.snd  hp2)) ?_
 rintro _ _ ⟨rfl,rfl⟩
 refine qS 2 rfl (oA · rfl) (rE ?_)
 try dsimp only [w0,w1,w2,w3]
 cases h
 exact q_ret rfl at_.at_ rfl (res1 rfl rfl) ⟨rfl,rfl⟩
end
end set_Set_string_All
namespace pair_Rel_int_string_Of
theorem at_ : FnAt Tryd.prog 52 Tryd.f52 := ⟨Tryd.func52,by kernel_rfl⟩
noncomputable def d0 := (Tryd.f52.body).getD .skip
noncomputable def r1 := kR (kA d0)
noncomputable def r4 := kR (kA (kA (kB d0)))
noncomputable def r7 := kR (kA (kA (kB (kA (kB d0)))))
noncomputable def r11 := kR (kA (kB (kB d0)))
noncomputable def c0 : Code := .seq (.region 0 r1 false) (.seq (.seq (.region 1 r4 false) (.cond (.tmp 6) (.seq (.region 2 r7 false) .ret) .skip)) (.seq (.region 3 r11 false) .ret))
theorem body : Tryd.f52.body = some c0 := by kernel_rfl
section
variable {base : Nat} {W0 : World} {β0 : Bt}
def f (x0 : (Option HA)) (x1 : Int) (S : HS) : Option ((HV) × HS) :=
 (if (Option.isNone x0) = true then
 some ((HV.fn (.func 72) [] []),S) else
 (Option.bind (x0) fun p2 =>
 (Option.bind (HS.ldM S (HA.fld p2 2)) fun p3 =>
 (Option.bind (HS.look S p3 (.int .i64 x1)) fun p4 =>
 (Option.bind (dP (Option.getD p4 (.ptr none))) fun p5 =>
 (Option.bind (set_Set_string_All.f p5 S) fun p6 =>
 some (p6.1,p6.2)))))))
theorem snd {x0 : (Option HA)} {x1 : Int} {S : HS}  {p : (HV) × HS} (h : f x0 x1 S = some p) : HCall Tryd.prog base W0 β0 52 [(.ptr x0),(.int .i64 x1)] S (fun v S1 => v = p.1 ∧ S1 = p.2) := by
 unfold f at h
 refine HCall.of_run at_.at_ body ?_
 show HRun Tryd.prog base W0 β0 52 none [.code c0] ⟨[(.ptr x0),(.int .i64 x1),τ,τ,τ,τ,τ,τ,τ,τ,τ,τ,τ,τ],[]⟩ S _
 refine qQ rfl (qR rfl rfl (qS 4 rfl (ok_assign · (.const fun _ => .nilFn)) (rE ?_)))
 try dsimp only [w0,w1,w2,w3]
 refine qQ rfl (qQ rfl (qR rfl rfl (qS 5 rfl (oM · rfl) (qS 6 rfl (ok_nil_ptr · tu55 (.tmp rfl) (.inl ⟨rfl,rfl⟩)) (rE ?_)))))
 try dsimp only [w0,w1,w2,w3]
 rcases ifc h with ⟨hc1,h⟩ | ⟨hc1,h⟩
 ·refine q_cond_t rfl (.tmp rfl) hc1 (qQ rfl (qR rfl rfl (qS 4 rfl (ok_assign · (.func _)) (rE ?_))))
  try dsimp only [w0,w1,w2,w3]
  cases h
  exact q_ret rfl at_.at_ rfl (res1 rfl rfl) ⟨rfl,rfl⟩
 ·obtain ⟨p2,hp2,h⟩ := bindo h
  obtain ⟨p3,hp3,h⟩ := bindo h
  refine q_cond_f rfl (.tmp rfl) (bfalse hc1) (q_skipc rfl (qQ rfl (qR rfl rfl (qS 7 rfl (oM · rfl) (qS 8 rfl (oN · rfl hp2) (qS 9 rfl (oF · fi79_2 (by decide) rfl rfl) (qS 10 rfl (oL · sc76 rfl rfl (ldM_out hp3)) ?_)))))))
  try dsimp only [w0,w1,w2,w3]
  obtain ⟨p4,hp4,h⟩ := bindo h
  obtain ⟨p5,hp5,h⟩ := bindo h
  obtain ⟨p6,hp6,h⟩ := bindo h
  refine qS 11 rfl (oM · rfl) (qS 12 rfl (ok_lookup · tu76 zi85 (fun β => .ptrNil) (keyInt tu3) (.tmp rfl) (.tmp rfl) hp4 (dP_out hp5)) (q_call (dst := some 13) rfl (.func _) (.cons (.tmp rfl) Evs.nil) (HInv.static set_Set_string_All.at_ set_Set_string_All.body (set_Set_string_All.snd  hp6)) ?_))
  rintro _ _ ⟨rfl,rfl⟩
  refine qS 4 rfl (oA · rfl) (rE ?_)
  try dsimp only [w0,w1,w2,w3]
  cases h
  exact q_ret rfl at_.at_ rfl (res1 rfl rfl) ⟨rfl,rfl⟩
end
end pair_Rel_int_string_Of
namespace wish_Lists_Of_1
theorem at_ : FnAt Tryd.prog 53 Tryd.f53 := ⟨Tryd.func53,by kernel_rfl⟩
noncomputable def d0 := (Tryd.f53.body).getD .skip
noncomputable def r1 := kR (kA d0)
noncomputable def d4 := kA (kA (kB d0))
noncomputable def r5 := kR (kA d4)
noncomputable def r13 := kR (kA (kA (kA (kB (kB d4)))))
noncomputable def r15 := kR (kA (kB (kA (kA (kB (kB d4))))))
noncomputable def r19 := kR (kB (kB (kB d4)))
noncomputable def c4 : Code := .seq (.region 1 r5 false) (.seq (.cond (.tmp 8) .skip (.exit 0)) (.seq (.block 1 (.seq (.region 2 r13 false) (.seq (.region 3 r15 false) (.cond (.tmp 14) .ret .skip)))) (.region 4 r19 false)))
noncomputable def c0 : Code := .seq (.region 0 r1 false) (.block 0 (.loop c4))
theorem body : Tryd.f53.body = some c0 := by kernel_rfl
section
variable {base : Nat} {W0 : World} {β0 : Bt}
def L0 (D : Dp) (H : Hd) (k : Nat) : Nat → HV → Sl → Int → Int → HS → Option ((Unit) × HS)
 | 0,_,_,_,_,_ => none
 | n + 1,y0,y5,y6,y7,S =>
  (if y7 < y6 then
  (Option.bind (HS.idx S y5 y7 1) fun p4 =>
  (Option.bind (HS.ldS S p4) fun p5 =>
  (Option.bind (D H y0 [(.str p5)] S) fun p6 =>
  (Option.bind (dB p6.1) fun p7 =>
  (if (!p7) = true then
  some ((),p6.2) else
  (L0 D H k n) y0 y5 y6 (w64 (y7 + 1)) p6.2))))) else
  some ((),S))
theorem L0_snd {D : Dp} {H : Hd} {k : Nat} (hD : DSound Tryd.prog base W0 D) (hH : HSound Tryd.prog base W0 β0 H)  : ∀ {n : Nat} ⦃y0 : HV⦄ ⦃y5 : Sl⦄ ⦃y6 : Int⦄ ⦃y7 : Int⦄ ⦃S : HS⦄ ⦃p : (Unit) × HS⦄ ⦃Gb Gc Gd Ge Gi Gj Gk Gl Gm Gn Go Gp : HV⦄,L0 D H k n y0 y5 y6 y7 S = some p → HRun Tryd.prog base W0 β0 53 none [.inLoop c4,.inBlock 0] ⟨[y0,Gb,Gc,Gd,Ge,(Sl.hv y5),(.int .i64 y6),(.int .i64 y7),Gi,Gj,Gk,Gl,Gm,Gn,Go,Gp],[]⟩ S (fun v S1 => v = (.tup []) ∧ S1 = p.2) := by
 intro n
 induction n with
 | zero => intro _ _ _ _ _ _ _ _ _ _ _ _ _ _ _ _ _ _ h; cases h
 | succ n ih =>
  intro y0 y5 y6 y7 S p Gb Gc Gd Ge Gi Gj Gk Gl Gm Gn Go Gp h
  simp only [L0] at h
  refine hr_inLoop (qQ rfl (qR rfl rfl (qS 8 rfl (oB · rfl rfl rfl) (rE ?_))))
  try dsimp only [w0,w1,w2,w3]
  refine qQ rfl ?_
  rcases ifc h with ⟨hc3,h⟩ | ⟨hc3,h⟩
  ·obtain ⟨p4,hp4,h⟩ := bindo h
   obtain ⟨p5,hp5,h⟩ := bindo h
   refine q_cond_t rfl (.tmp rfl) (decide_eq_true hc3) (q_skipc rfl (qQ rfl (q_block rfl (qQ rfl (qR rfl rfl (qS 9 rfl (oX (s := y5) · tu22 sz9 rfl rfl hp4) (qS 10 rfl (oL · sc9 rfl rfl (ldS_out hp5)) (qS 4 rfl (oA · rfl) (rE ?_)))))))))
   try dsimp only [w0,w1,w2,w3]
   obtain ⟨p6,hp6,h⟩ := bindo h
   obtain ⟨p7,hp7,h⟩ := bindo h
   refine qQ rfl (qR rfl rfl (qS 11 rfl (oM · rfl) (qS 12 rfl (oM · rfl) (q_call (dst := some 13) rfl (.tmp rfl) (.cons (.tmp rfl) Evs.nil) (hD _ _ hH _ _ _ _ _ hp6) ?_))))
   rintro _ _ ⟨rfl,rfl⟩
   rw [dB_out hp7]
   refine qS 14 rfl (ok_not · (.tmp rfl)) (rE ?_)
   try dsimp only [w0,w1,w2,w3]
   rcases ifc h with ⟨hc8,h⟩ | ⟨hc8,h⟩
   ·cases h
    exact q_cond_t rfl (.tmp rfl) hc8 (q_ret rfl at_.at_ rfl (res0 rfl) ⟨rfl,rfl⟩)
   ·refine q_cond_f rfl (.tmp rfl) (bfalse hc8) (q_skipc rfl (hr_inBlock (qR rfl rfl (qS 15 rfl (oC · rfl rfl) (qS 7 rfl (oM · rfl) (rE ?_))))))
    try dsimp only [w0,w1,w2,w3]
    try dsimp only [w0,w1,w2,w3]
    exact ih h
  ·cases h
   exact q_cond_f rfl (.tmp rfl) (decide_eq_false hc3) (q_exit rfl rfl (q_end at_.at_ rfl (res0 rfl) ⟨rfl,rfl⟩))
def f (D : Dp) (H : Hd) (k : Nat) (x0 : HV) (x1 : (Option HA)) (S : HS) : Option ((Unit) × HS) :=
 (Option.bind (x1) fun p1 =>
 (Option.bind (HS.ldSl S p1) fun p2 =>
 L0 D H k k x0 p2 (Sl.len p2 : Int) 0 S))
theorem snd {D : Dp} {H : Hd} {k : Nat} {x0 : HV} {x1 : (Option HA)} {S : HS} (hD : DSound Tryd.prog base W0 D) (hH : HSound Tryd.prog base W0 β0 H)  {p : (Unit) × HS} (h : f D H k x0 x1 S = some p) : HCall Tryd.prog base W0 β0 53 [x0,(.ptr x1)] S (fun v S1 => v = (.tup []) ∧ S1 = p.2) := by
 unfold f at h
 refine HCall.of_run at_.at_ body ?_
 show HRun Tryd.prog base W0 β0 53 none [.code c0] ⟨[x0,(.ptr x1),τ,τ,τ,τ,τ,τ,τ,τ,τ,τ,τ,τ,τ,τ],[]⟩ S _
 obtain ⟨p1,hp1,h⟩ := bindo h
 obtain ⟨p2,hp2,h⟩ := bindo h
 refine qQ rfl (qR rfl rfl (qS 5 rfl (oL · sc22 rfl hp1 (ldSl_out hp2)) (qS 6 rfl (ok_len_sl (q := Sl.a p2) (n := Sl.len p2) (z := Sl.cap p2) · rfl tu22 (.tmp rfl)) (qS 7 rfl (ok_move · (.int _ _)) (rE ?_)))))
 try dsimp only [w0,w1,w2,w3]
 refine q_block rfl (q_loop rfl ?_)
 try dsimp only [w0,w1,w2,w3]
 exact L0_snd hD hH h
end
end wish_Lists_Of_1
namespace wish_Lists_Of
theorem at_ : FnAt Tryd.prog 34 Tryd.f34 := ⟨Tryd.func34,by kernel_rfl⟩
noncomputable def d0 := (Tryd.f34.body).getD .skip
noncomputable def r1 := kR (kA d0)
noncomputable def r3 := kR (kA (kB d0))
noncomputable def d5 := kA (kB (kB d0))
noncomputable def r6 := kR (kA d5)
noncomputable def r9 := kR (kA (kA (kB d5)))
noncomputable def r12 := kR (kA (kA (kB (kA (kB d5)))))
noncomputable def r14 := kR (kA (kB (kA (kB (kA (kB d5))))))
noncomputable def r17 := kR (kA (kB (kB (kB d0))))
noncomputable def c16 : Code := .seq (.region 6 r17 false) .ret
noncomputable def c13 : Code := .block 1 (.region 5 r14 true)
noncomputable def c12 : Code := .region 4 r12 false
noncomputable def c0 : Code := .seq (.region 0 r1 false) (.seq (.region 1 r3 false) (.seq (.seq (.region 2 r6 false) (.cond (.tmp 8) (.seq (.region 3 r9 true) (.block 0 (.rangeFunc (.tmp 14) #[15] c12 c13))) .skip)) c16))
theorem body : Tryd.f34.body = some c0 := by kernel_rfl
section
variable {base : Nat} {W0 : World} {β0 : Bt}
def J0 (D : Dp) (H : Hd) (l : Nat) (y2 : (Option HA)) (y3 : (Option HA)) (y5 : (Option HA)) (y15 : (List UInt8)) (S : HS) : Option (HV × HS) :=
 (Option.bind (HS.begin_ S l) fun p11 =>
 (Option.bind (y5) fun p12 =>
 (Option.bind (HS.ldSl p11 p12) fun p13 =>
 (Option.bind (y2) fun p14 =>
 (Option.bind (HS.ldP p11 p14) fun p15 =>
 (Option.bind (p15) fun p16 =>
 (Option.bind (HS.ldM p11 (HA.fld p16 1)) fun p17 =>
 (Option.bind (y3) fun p18 =>
 (Option.bind (HS.ldI p11 .i64 p18) fun p19 =>
 (Option.bind (HS.look p11 p17 (.agg [(.int .i64 p19),(.str y15)])) fun p20 =>
 (Option.bind (dS (Option.getD p20 (.str []))) fun p21 =>
 (letv (HS.lit p11 [[(.str p21)]] 1) fun p22 =>
 (Option.bind (HS.ldSl (p22.2) p12) fun p23 =>
 (if p23 = p13 then
 (Option.bind (HS.rows (p22.2) (p22.1) 1) fun p25 =>
 (Option.bind (HS.app (p22.2) p13 p25 1) fun p26 =>
 (Option.bind (y5) fun p27 =>
 (Option.bind (HS.sets (p26.2) p27 [(Sl.hv (p26.1))]) fun p28 =>
 (HS.endr p28 l none))))) else none))))))))))))))
theorem J0_snd {D : Dp} {H : Hd} {l : Nat} (hD : DSound Tryd.prog base W0 D) (hH : HSound Tryd.prog base W0 β0 H)  {y2 : (Option HA)} {y3 : (Option HA)} {y5 : (Option HA)} {y15 : (List UInt8)} {S : HS} {p : HV × HS} {Ga Gb Ge Gg Gh Gi Gj Gk Gl Gm Gn Go Gq Gr Gs Gt Gu Gv Gw Gx Gy Gz Ka Kb : HV} (h : J0 D H l y2 y3 y5 y15 S = some p) : HRun Tryd.prog base W0 β0 34 (some l) [.code c12,.beginRound,.code c13] ⟨[Ga,Gb,(.ptr y2),(.ptr y3),Ge,(.ptr y5),Gg,Gh,Gi,Gj,Gk,Gl,Gm,Gn,Go,(.str y15),Gq,Gr,Gs,Gt,Gu,Gv,Gw,Gx,Gy,Gz,Ka,Kb],[]⟩ S (fun v S1 => v = p.1 ∧ S1 = p.2) := by
 unfold J0 at h
 refine qR rfl rfl (qS 6 rfl (oA · rfl) (rE ?_))
 try dsimp only [w0,w1,w2,w3]
 obtain ⟨p11,hp11,h⟩ := bindo h
 refine q_begin hp11 ?_
 refine q_block rfl ?_
 refine x_start (cls := [3,1,0,0,1,1,0,0,1,2,2,2]) (rk := [0,1,2,3,4,5,6,7,8,9,10,11]) rfl (by kernel_rfl) ?_
 obtain ⟨p12,hp12,h⟩ := bindo h
 obtain ⟨p13,hp13,h⟩ := bindo h
 refine x_late (r_op (dst := some 16) (ts := [5]) rfl (by intro _ _ h; cases h) (by kernel_rfl) (fun _ ho => ok_load_s ho sc22 (.tmp rfl) hp12 (ldSl_out hp13))) rfl trivial ?_
 obtain ⟨p14,hp14,h⟩ := bindo h
 obtain ⟨p15,hp15,h⟩ := bindo h
 refine xr 17 [2] rfl (oL · sc34 rfl hp14 (ldP_out hp15)) ?_
 obtain ⟨p16,hp16,h⟩ := bindo h
 refine xf 18 [17] rfl (oN · rfl hp16) ?_
 refine xf 19 [18] rfl (oF · fi60_1 (by decide) rfl rfl) ?_
 try dsimp only [w0,w1,w2,w3]
 obtain ⟨p17,hp17,h⟩ := bindo h
 refine xr 20 [19] rfl (oL · sc58 rfl rfl (ldM_out hp17)) ?_
 obtain ⟨p18,hp18,h⟩ := bindo h
 obtain ⟨p19,hp19,h⟩ := bindo h
 refine xr 21 [3] rfl (oL · sc3 rfl hp18 (ldI_out hp19)) ?_
 refine xf 22 [6] rfl (oM · rfl) ?_
 refine xf 23 [21,22] rfl (ok_build (is := [0,1]) (xs := [(.tmp 21),(.tmp 22)]) (r := [(.int .i64 p19),(.str y15)]) st63 · rfl rfl (.cons (.tmp rfl) (.cons (.tmp rfl) Evs.nil)) rfl) ?_
 try dsimp only [w0,w1,w2,w3]
 obtain ⟨p20,hp20,h⟩ := bindo h
 obtain ⟨p21,hp21,h⟩ := bindo h
 refine xr 24 [20,23] rfl (ok_lookup · tu58 zi9 (fun β => .str []) (keyStruct sk63 rfl) (.tmp rfl) (.tmp rfl) hp20 (dS_out hp21)) ?_
 obtain ⟨p22,hp22,h⟩ := leto h
 obtain ⟨p23,hp23,h⟩ := bindo h
 obtain ⟨hg24,h⟩ := gd h
 refine ze 25 [24] rfl (ok_buildSlice_s (xs := [(.tmp 24)]) el22 · rfl rfl (by decide) (.cons (.tmp rfl) Evs.nil) rfl rfl hp22) ⟨.inr (l_op (dst := some 16) (ts := [5]) rfl (by intro _ _ h; cases h) (by kernel_rfl) (fun _ ho => ok_load_s ho sc22 (.tmp rfl) hp12 (ldSl_out (hp23.trans (congrArg some hg24))))),trivial⟩ ?_
 obtain ⟨p25,hp25,h⟩ := bindo h
 obtain ⟨p26,hp26,h⟩ := bindo h
 refine ze 26 [16,25] rfl (ok_append (s := p13) (s1 := (p22.1)) el22 · rfl rfl ⟨_,tu22⟩ (.tmp rfl) (.tmp rfl) hp25 hp26) ⟨.inl (by kernel_rfl),trivial⟩ ?_
 obtain ⟨p27,hp27,h⟩ := bindo h
 obtain ⟨p28,hp28,h⟩ := bindo h
 refine x_goE (e_op (dst := none) (ts := [5,26]) rfl (by intro _ _ h; cases h) (by kernel_rfl) (fun _ ho => ok_store_s (v := (Sl.hv (p26.1))) ho sz22 (.tmp rfl) hp27 (.tmp rfl) rfl hp28)) rfl ⟨.inl (by kernel_rfl),trivial⟩ ?_
 refine x_rest rfl ?_
 refine rE ?_
 try dsimp only [w0,w1,w2,w3]
 refine hr_inBlock ?_
 exact q_round_end h ⟨rfl,rfl⟩
def J1 (D : Dp) (H : Hd) (y5 : (Option HA)) (ds : List Nat) (S : HS) : Option ((HV) × HS) :=
 (Option.bind (HS.leave S ds) fun p36 =>
 some ((HV.fn (.func 53) [] [(.ptr y5)]),p36))
theorem J1_snd {D : Dp} {H : Hd} (hD : DSound Tryd.prog base W0 D) (hH : HSound Tryd.prog base W0 β0 H)  {y5 : (Option HA)} {ds : List Nat} {S : HS} {p : (HV) × HS} {Ga Gb Gc Gd Ge Gg Gh Gi Gj Gk Gl Gm Gn Go Gp Gq Gr Gs Gt Gu Gv Gw Gx Gy Gz Ka Kb : HV} (h : J1 D H y5 ds S = some p) : HRun Tryd.prog base W0 β0 34 none [.code c16] ⟨[Ga,Gb,Gc,Gd,Ge,(.ptr y5),Gg,Gh,Gi,Gj,Gk,Gl,Gm,Gn,Go,Gp,Gq,Gr,Gs,Gt,Gu,Gv,Gw,Gx,Gy,Gz,Ka,Kb],ds⟩ S (fun v S1 => v = p.1 ∧ S1 = p.2) := by
 unfold J1 at h
 refine qQ rfl (qR rfl rfl (qS 27 rfl (ok_makeFunc · Evs.nil (.cons (.tmp rfl) Evs.nil)) (qS 4 rfl (oA · rfl) (rE ?_))))
 try dsimp only [w0,w1,w2,w3]
 obtain ⟨p36,hp36,h⟩ := bindo h
 cases h
 exact q_ret rfl at_.at_ hp36 (res1 rfl rfl) ⟨rfl,rfl⟩
def f (D : Dp) (H : Hd) (x0 : (Option HA)) (x1 : Int) (S : HS) : Option ((HV) × HS) :=
 (letv (HS.new S (.cells 1 [[(.ptr x0)]] true)) fun p1 =>
 (letv (HS.new p1 (.cells 1 [[(.int .i64 x1)]] true)) fun p2 =>
 (letv (HS.new p2 (.cells 1 [[(Sl.hv Sl.nil)]] true)) fun p3 =>
 (Option.bind (HS.ldP p3 (HA.cell0 S.next)) fun p4 =>
 (if (!Option.isNone p4) = true then
 (Option.bind (HS.ldP p3 (HA.cell0 S.next)) fun p6 =>
 (Option.bind (p6) fun p7 =>
 (Option.bind (HS.ldP p3 (HA.fld p7 0)) fun p8 =>
 (Option.bind (HS.ldI p3 .i64 (HA.cell0 p1.next)) fun p9 =>
 (Option.bind (pair_Rel_int_string_Of.f p8 p9 p3) fun p10 =>
 (Option.bind (D (Hd.set H (HS.next p10.2 + 1) fun vs T =>
 (Option.bind (HS.lp T (HS.next p10.2 + 1)) fun u31 =>
 (Option.bind (args1 vs) fun ar29 =>
 (Option.bind (dS ar29) fun p30 =>
 (J0 D H (HS.next p10.2 + 1) (some (HA.cell0 S.next)) (some (HA.cell0 p1.next)) (some (HA.cell0 p2.next)) p30 T))))) p10.1 [.fn (.yield (HS.next p10.2 + 1)) [] []] (HS.new (HS.new p10.2 .defer) (.loop .ready none))) fun p32 =>
 (Option.bind (HS.finish p32.2 (HS.next p10.2 + 1)) fun p33 =>
 (Option.bind (pcode p33.1) fun n34 =>
 (if n34 = 0 then
 J1 D H (some (HA.cell0 p2.next)) (HS.next p10.2 :: []) p33.2 else
 none))))))))) else
 J1 D H (some (HA.cell0 p2.next)) [] p3)))))
theorem snd {D : Dp} {H : Hd} {x0 : (Option HA)} {x1 : Int} {S : HS} (hD : DSound Tryd.prog base W0 D) (hH : HSound Tryd.prog base W0 β0 H)  {p : (HV) × HS} (h : f D H x0 x1 S = some p) : HCall Tryd.prog base W0 β0 34 [(.ptr x0),(.int .i64 x1)] S (fun v S1 => v = p.1 ∧ S1 = p.2) := by
 unfold f at h
 refine HCall.of_run at_.at_ body ?_
 show HRun Tryd.prog base W0 β0 34 none [.code c0] ⟨[(.ptr x0),(.int .i64 x1),τ,τ,τ,τ,τ,τ,τ,τ,τ,τ,τ,τ,τ,τ,τ,τ,τ,τ,τ,τ,τ,τ,τ,τ,τ,τ],[]⟩ S _
 obtain ⟨p1,hp1,h⟩ := leto h
 obtain ⟨p2,hp2,h⟩ := leto h
 refine qQ rfl (qR rfl rfl (qS 2 rfl (ok_box_e · (.tmp rfl) (Nat.zero_lt_succ _) rfl hp1) (qS 3 rfl (ok_box_e · (.tmp rfl) (Nat.zero_lt_succ _) rfl hp2) (qS 4 rfl (ok_assign · (.const fun _ => .nilFn)) (rE ?_)))))
 try dsimp only [w0,w1,w2,w3]
 obtain ⟨p3,hp3,h⟩ := leto h
 refine qQ rfl (qR rfl rfl (qS 5 rfl (ok_alloc_e · zi22 zr22 (by decide) rfl hp3) (rE ?_)))
 try dsimp only [w0,w1,w2,w3]
 obtain ⟨p4,hp4,h⟩ := bindo h
 refine qQ rfl (qQ rfl (qR rfl rfl (qS 7 rfl (oL · sc34 rfl rfl (ldP_out hp4)) (qS 8 rfl (ok_nil_ptr · tu34 (.tmp rfl) (.inr ⟨rfl,rfl⟩)) (rE ?_)))))
 try dsimp only [w0,w1,w2,w3]
 rcases ifc h with ⟨hc5,h⟩ | ⟨hc5,h⟩
 ·refine q_cond_t rfl (.tmp rfl) hc5 (qQ rfl ?_)
  refine x_start (cls := [1,0,0,1,1,2]) (rk := [0,1,2,3,4,5]) rfl (by kernel_rfl) ?_
  obtain ⟨p6,hp6,h⟩ := bindo h
  refine yr 9 [2] rfl (oL · sc34 rfl rfl (ldP_out hp6)) ?_
  obtain ⟨p7,hp7,h⟩ := bindo h
  refine yf 10 [9] rfl (oN · rfl hp7) ?_
  refine yf 11 [10] rfl (oF · fi60_0 (by decide) rfl rfl) ?_
  obtain ⟨p8,hp8,h⟩ := bindo h
  refine yr 12 [11] rfl (oL · sc55 rfl rfl (ldP_out hp8)) ?_
  try dsimp only [w0,w1,w2,w3]
  obtain ⟨p9,hp9,h⟩ := bindo h
  refine yr 13 [3] rfl (oL · sc3 rfl rfl (ldI_out hp9)) ?_
  obtain ⟨p10,hp10,h⟩ := bindo h
  refine x_go (e_call (dst := some 14) (ts := [12,13]) rfl (by kernel_rfl) (.func _) (.cons (.tmp rfl) (.cons (.tmp rfl) Evs.nil)) (HInv.static pair_Rel_int_string_Of.at_ pair_Rel_int_string_Of.body (pair_Rel_int_string_Of.snd  hp10))) rfl ?_
  refine x_rest rfl ?_
  refine rE ?_
  try dsimp only [w0,w1,w2,w3]
  obtain ⟨p32,hp32,h⟩ := bindo h
  obtain ⟨p33,hp33,h⟩ := bindo h
  obtain ⟨n34,hn34,h⟩ := bindo h
  refine q_block rfl ?_
  refine q_range (D := D) (H := H) rfl (.tmp rfl) hD hH hp32 hp33 ?_ ?_
  ·intro β1 hle hLA vs T u T' hr
   obtain ⟨u31,hu31,hr⟩ := bindo hr
   obtain ⟨ar29,har29,hr⟩ := bindo hr
   obtain ⟨p30,hp30,hr⟩ := bindo hr
   rw [args1_out har29]
   refine q_yield2 hLA hu31 rfl rfl ?_
   rw [dS_out hp30]
   simp only [HAct.params,List.set_cons_zero,List.set_cons_succ]
   exact J0_snd hD (hH.up hle) hr
  ·rcases ifc h with ⟨hc35,h⟩ | ⟨hc35,h⟩
   ·rw [pcode0 hn34 hc35]
    simp only [jumped_none,jumped_some]
    refine hr_inBlock ?_
    try dsimp only [w0,w1,w2,w3]
    exact J1_snd hD hH h
   ·cases h
 ·refine q_cond_f rfl (.tmp rfl) (bfalse hc5) (q_skipc rfl ?_)
  try dsimp only [w0,w1,w2,w3]
  exact J1_snd hD hH h
end
end wish_Lists_Of
namespace wish_Lists_Clear
theorem at_ : FnAt Tryd.prog 19 Tryd.f19 := ⟨Tryd.func19,by kernel_rfl⟩
noncomputable def d0 := (Tryd.f19.body).getD .skip
noncomputable def r1 := kR (kA d0)
noncomputable def r3 := kR (kA (kB d0))
noncomputable def d5 := kA (kB (kB d0))
noncomputable def r6 := kR (kA d5)
noncomputable def r9 := kR (kA (kA (kB d5)))
noncomputable def r12 := kR (kA (kA (kB (kA (kB d5)))))
noncomputable def r13 := kR (kB (kA (kB (kA (kB d5)))))
noncomputable def r15 := kR (kA (kB (kB (kB d0))))
noncomputable def c10 : Code := .block 1 (.seq (.region 4 r12 false) (.region 5 r13 false))
noncomputable def c9 : Code := .region 3 r9 false
noncomputable def c0 : Code := .seq (.region 0 r1 false) (.seq (.region 1 r3 false) (.seq (.seq (.region 2 r6 false) (.block 0 (.rangeFunc (.tmp 9) #[10] c9 c10))) (.seq (.region 6 r15 false) .ret)))
theorem body : Tryd.f19.body = some c0 := by kernel_rfl
section
variable {base : Nat} {W0 : World} {β0 : Bt}
def J0 (D : Dp) (H : Hd) (k : Nat) (l : Nat) (y2 : (Option HA)) (y3 : (Option HA)) (y5 : (Option HA)) (y10 : (List UInt8)) (S : HS) : Option (HV × HS) :=
 (Option.bind (HS.begin_ S l) fun p8 =>
 (Option.bind (y2) fun p9 =>
 (Option.bind (HS.ldP p8 p9) fun p10 =>
 (Option.bind (y3) fun p11 =>
 (Option.bind (HS.ldI p8 .i64 p11) fun p12 =>
 (Option.bind (wish_Lists_Remove.f k p10 p12 y10 p8) fun p13 =>
 (Option.bind (y5) fun p14 =>
 (Option.bind (HS.ldI p13.2 .i64 p14) fun p15 =>
 (Option.bind (y5) fun p16 =>
 (Option.bind (HS.sets p13.2 p16 [(.int .i64 (w64 (p15 + 1)))]) fun p17 =>
 (HS.endr p17 l none)))))))))))
theorem J0_snd {D : Dp} {H : Hd} {k : Nat} {l : Nat} (hD : DSound Tryd.prog base W0 D) (hH : HSound Tryd.prog base W0 β0 H)  {y2 : (Option HA)} {y3 : (Option HA)} {y5 : (Option HA)} {y10 : (List UInt8)} {S : HS} {p : HV × HS} {Ga Gb Ge Gg Gh Gi Gj Gl Gm Gn Go Gp Gq Gr : HV} (h : J0 D H k l y2 y3 y5 y10 S = some p) : HRun Tryd.prog base W0 β0 19 (some l) [.code c9,.beginRound,.code c10] ⟨[Ga,Gb,(.ptr y2),(.ptr y3),Ge,(.ptr y5),Gg,Gh,Gi,Gj,(.str y10),Gl,Gm,Gn,Go,Gp,Gq,Gr],[]⟩ S (fun v S1 => v = p.1 ∧ S1 = p.2) := by
 unfold J0 at h
 refine qR rfl rfl (qS 6 rfl (oA · rfl) (rE ?_))
 try dsimp only [w0,w1,w2,w3]
 obtain ⟨p8,hp8,h⟩ := bindo h
 refine q_begin hp8 ?_
 obtain ⟨p9,hp9,h⟩ := bindo h
 obtain ⟨p10,hp10,h⟩ := bindo h
 obtain ⟨p11,hp11,h⟩ := bindo h
 obtain ⟨p12,hp12,h⟩ := bindo h
 obtain ⟨p13,hp13,h⟩ := bindo h
 refine q_block rfl (qQ rfl (qR rfl rfl (qS 11 rfl (oL · sc34 rfl hp9 (ldP_out hp10)) (qS 12 rfl (oL · sc3 rfl hp11 (ldI_out hp12)) (qS 13 rfl (oM · rfl) (q_call (dst := some 14) rfl (.func _) (.cons (.tmp rfl) (.cons (.tmp rfl) (.cons (.tmp rfl) Evs.nil))) (HInv.static wish_Lists_Remove.at_ wish_Lists_Remove.body (wish_Lists_Remove.snd  hp13)) ?_))))))
 rintro _ _ ⟨rfl,rfl⟩
 refine rE ?_
 try dsimp only [w0,w1,w2,w3]
 obtain ⟨p14,hp14,h⟩ := bindo h
 obtain ⟨p15,hp15,h⟩ := bindo h
 obtain ⟨p16,hp16,h⟩ := bindo h
 obtain ⟨p17,hp17,h⟩ := bindo h
 refine qR rfl rfl (qS 15 rfl (oL · sc3 rfl hp14 (ldI_out hp15)) (qS 16 rfl (oC · rfl rfl) (qN rfl (ok_store_s (v := (.int .i64 (w64 (p15 + 1)))) · sz3 (.tmp rfl) hp16 (.tmp rfl) rfl hp17) (rE ?_))))
 try dsimp only [w0,w1,w2,w3]
 refine hr_inBlock ?_
 exact q_round_end h ⟨rfl,rfl⟩
def f (D : Dp) (H : Hd) (k : Nat) (x0 : (Option HA)) (x1 : Int) (S : HS) : Option ((Int) × HS) :=
 (letv (HS.new S (.cells 1 [[(.ptr x0)]] true)) fun p1 =>
 (letv (HS.new p1 (.cells 1 [[(.int .i64 x1)]] true)) fun p2 =>
 (letv (HS.new p2 (.cells 1 [[(.int .i64 0)]] true)) fun p3 =>
 (Option.bind (HS.sets p3 (HA.cell0 p2.next) [(.int .i64 0)]) fun p4 =>
 (Option.bind (HS.ldP p4 (HA.cell0 S.next)) fun p5 =>
 (Option.bind (HS.ldI p4 .i64 (HA.cell0 p1.next)) fun p6 =>
 (Option.bind (wish_Lists_Of.f D H p5 p6 p4) fun p7 =>
 (Option.bind (D (Hd.set H (HS.next p7.2 + 1) fun vs T =>
 (Option.bind (HS.lp T (HS.next p7.2 + 1)) fun u20 =>
 (Option.bind (args1 vs) fun ar18 =>
 (Option.bind (dS ar18) fun p19 =>
 (J0 D H k (HS.next p7.2 + 1) (some (HA.cell0 S.next)) (some (HA.cell0 p1.next)) (some (HA.cell0 p2.next)) p19 T))))) p7.1 [.fn (.yield (HS.next p7.2 + 1)) [] []] (HS.new (HS.new p7.2 .defer) (.loop .ready none))) fun p21 =>
 (Option.bind (HS.finish p21.2 (HS.next p7.2 + 1)) fun p22 =>
 (Option.bind (pcode p22.1) fun n23 =>
 (if n23 = 0 then
 (Option.bind (HS.ldI p22.2 .i64 (HA.cell0 p2.next)) fun p25 =>
 (Option.bind (HS.leave p22.2 (HS.next p7.2 :: [])) fun p26 =>
 some (p25,p26))) else
 none)))))))))))
theorem snd {D : Dp} {H : Hd} {k : Nat} {x0 : (Option HA)} {x1 : Int} {S : HS} (hD : DSound Tryd.prog base W0 D) (hH : HSound Tryd.prog base W0 β0 H)  {p : (Int) × HS} (h : f D H k x0 x1 S = some p) : HCall Tryd.prog base W0 β0 19 [(.ptr x0),(.int .i64 x1)] S (fun v S1 => v = (.int .i64 p.1) ∧ S1 = p.2) := by
 unfold f at h
 refine HCall.of_run at_.at_ body ?_
 show HRun Tryd.prog base W0 β0 19 none [.code c0] ⟨[(.ptr x0),(.int .i64 x1),τ,τ,τ,τ,τ,τ,τ,τ,τ,τ,τ,τ,τ,τ,τ,τ],[]⟩ S _
 obtain ⟨p1,hp1,h⟩ := leto h
 obtain ⟨p2,hp2,h⟩ := leto h
 refine qQ rfl (qR rfl rfl (qS 2 rfl (ok_box_e · (.tmp rfl) (Nat.zero_lt_succ _) rfl hp1) (qS 3 rfl (ok_box_e · (.tmp rfl) (Nat.zero_lt_succ _) rfl hp2) (qS 4 rfl (ok_assign · (.int _ _)) (rE ?_)))))
 try dsimp only [w0,w1,w2,w3]
 obtain ⟨p3,hp3,h⟩ := leto h
 obtain ⟨p4,hp4,h⟩ := bindo h
 refine qQ rfl (qR rfl rfl (qS 5 rfl (ok_alloc_e · zi3 zr3 (by decide) rfl hp3) (qN rfl (ok_store_s (v := (.int .i64 0)) · sz3 (.tmp rfl) rfl (.int _ _) rfl hp4) (rE ?_))))
 try dsimp only [w0,w1,w2,w3]
 obtain ⟨p5,hp5,h⟩ := bindo h
 obtain ⟨p6,hp6,h⟩ := bindo h
 obtain ⟨p7,hp7,h⟩ := bindo h
 refine qQ rfl (qQ rfl (qR rfl rfl (qS 7 rfl (oL · sc34 rfl rfl (ldP_out hp5)) (qS 8 rfl (oL · sc3 rfl rfl (ldI_out hp6)) (q_call (dst := some 9) rfl (.func _) (.cons (.tmp rfl) (.cons (.tmp rfl) Evs.nil)) (HInv.static wish_Lists_Of.at_ wish_Lists_Of.body (wish_Lists_Of.snd hD hH hp7)) ?_)))))
 rintro _ _ ⟨rfl,rfl⟩
 refine rE ?_
 try dsimp only [w0,w1,w2,w3]
 obtain ⟨p21,hp21,h⟩ := bindo h
 obtain ⟨p22,hp22,h⟩ := bindo h
 obtain ⟨n23,hn23,h⟩ := bindo h
 refine q_block rfl ?_
 refine q_range (D := D) (H := H) rfl (.tmp rfl) hD hH hp21 hp22 ?_ ?_
 ·intro β1 hle hLA vs T u T' hr
  obtain ⟨u20,hu20,hr⟩ := bindo hr
  obtain ⟨ar18,har18,hr⟩ := bindo hr
  obtain ⟨p19,hp19,hr⟩ := bindo hr
  rw [args1_out har18]
  refine q_yield2 hLA hu20 rfl rfl ?_
  rw [dS_out hp19]
  simp only [HAct.params,List.set_cons_zero,List.set_cons_succ]
  exact J0_snd hD (hH.up hle) hr
 ·rcases ifc h with ⟨hc24,h⟩ | ⟨hc24,h⟩
  ·rw [pcode0 hn23 hc24]
   simp only [jumped_none,jumped_some]
   obtain ⟨p25,hp25,h⟩ := bindo h
   refine hr_inBlock (qQ rfl (qR rfl rfl (qS 17 rfl (oL · sc3 rfl rfl (ldI_out hp25)) (qS 4 rfl (oA · rfl) (rE ?_)))))
   try dsimp only [w0,w1,w2,w3]
   obtain ⟨p26,hp26,h⟩ := bindo h
   cases h
   exact q_ret rfl at_.at_ hp26 (res1 rfl rfl) ⟨rfl,rfl⟩
  ·cases h
end
end wish_Lists_Clear
namespace rollcalllaw21_WishBoth
theorem at_ : FnAt Tryd.prog 4 Tryd.f4 := ⟨Tryd.func4,by kernel_rfl⟩
noncomputable def d0 := (Tryd.f4.body).getD .skip
noncomputable def r1 := kR (kA d0)
noncomputable def r4 := kR (kA (kA (kB d0)))
noncomputable def r7 := kR (kA (kA (kB (kA (kB d0)))))
noncomputable def r12 := kR (kA (kA (kB (kB d0))))
noncomputable def r15 := kR (kA (kA (kB (kA (kB (kB d0))))))
noncomputable def d18 := kB (kB (kB d0))
noncomputable def r19 := kR (kA d18)
noncomputable def r21 := kR (kA (kB d18))
noncomputable def d23 := kA (kB (kB d18))
noncomputable def r24 := kR (kA d23)
noncomputable def d27 := kA (kA (kB d23))
noncomputable def r29 := kR (kA (kA d27))
noncomputable def d35 := kA (kA (kB d27))
noncomputable def r36 := kR (kA d35)
noncomputable def r39 := kR (kA (kA (kB d35)))
noncomputable def r41 := kR (kA (kB (kA (kB d35))))
noncomputable def r44 := kR (kA (kB (kB d35)))
noncomputable def r46 := kR (kA (kB (kB (kB d35))))
noncomputable def r48 := kR (kB (kB d27))
noncomputable def d49 := kB (kB (kB d18))
noncomputable def r50 := kR (kA d49)
noncomputable def r53 := kR (kA (kA (kB d49)))
noncomputable def d54 := kB (kA (kB d49))
noncomputable def r58 := kR (kA (kA (kA (kA d54))))
noncomputable def d64 := kA (kA (kB (kA (kA d54))))
noncomputable def r65 := kR (kA d64)
noncomputable def r68 := kR (kA (kA (kB d64)))
noncomputable def r71 := kR (kB (kB (kA (kA d54))))
noncomputable def d73 := kA (kB (kB d49))
noncomputable def r74 := kR (kA d73)
noncomputable def r79 := kR (kA (kA (kA (kA (kB d73)))))
noncomputable def r85 := kR (kA (kA (kB (kA (kA (kB d73))))))
noncomputable def r86 := kR (kB (kB (kA (kA (kB d73)))))
noncomputable def r88 := kR (kA (kB (kB (kB d49))))
noncomputable def c89 : Code := .ret
noncomputable def c87 : Code := .seq (.region 25 r88 false) c89
noncomputable def c77 : Code := .seq (.seq (.region 22 r79 false) (.cond (.tmp 94) .skip (.exit 4))) (.seq (.block 5 (.region 24 r85 false)) (.region 23 r86 false))
noncomputable def c72 : Code := .seq (.seq (.region 21 r74 false) (.block 4 (.loop c77))) c87
noncomputable def c56 : Code := .seq (.seq (.region 17 r58 false) (.cond (.tmp 72) .skip (.exit 2))) (.seq (.block 3 (.seq (.region 19 r65 true) (.cond (.tmp 90) (.seq (.region 20 r68 false) .ret) .skip))) (.region 18 r71 false))
noncomputable def c49 : Code := .seq (.region 15 r50 false) (.seq (.seq (.region 16 r53 false) (.block 2 (.loop c56))) c72)
noncomputable def c48 : Code := .region 9 r48 false
noncomputable def c27 : Code := .seq (.seq (.region 8 r29 false) (.cond (.tmp 25) .skip (.exit 0))) (.seq (.block 1 (.seq (.region 10 r36 false) (.cond (.tmp 33) (.seq (.region 11 r39 true) (.cond (.tmp 45) (.region 12 r41 false) .skip)) (.seq (.region 13 r44 true) (.cond (.tmp 60) (.region 14 r46 false) .skip))))) c48)
noncomputable def c18 : Code := .seq (.region 5 r19 false) (.seq (.region 6 r21 false) (.seq (.seq (.region 7 r24 false) (.block 0 (.loop c27))) c49))
noncomputable def c13 : Code := .cond (.tmp 20) (.seq (.region 4 r15 false) .ret) .skip
noncomputable def c0 : Code := .seq (.region 0 r1 false) (.seq (.seq (.region 1 r4 false) (.cond (.tmp 13) (.seq (.region 2 r7 false) .ret) .skip)) (.seq (.seq (.region 3 r12 false) c13) c18))
theorem body : Tryd.f4.body = some c0 := by kernel_rfl
section
variable {base : Nat} {W0 : World} {β0 : Bt}
def J2 (D : Dp) (H : Hd) (k : Nat) (rec0 : Sl → (List UInt8) → (Option HA) → Int → Int → HS → Option ((Bool) × HS)) (y0 : Sl) (y1 : (List UInt8)) (y5 : (Option HA)) (y6 : Int) (y7 : Int) (S : HS) : Option ((Bool) × HS) :=
 rec0 y0 y1 y5 y6 (w64 (y7 + 1)) S
theorem J2_snd {D : Dp} {H : Hd} {k : Nat} {rec0 : Sl → (List UInt8) → (Option HA) → Int → Int → HS → Option ((Bool) × HS)} (hD : DSound Tryd.prog base W0 D) (hH : HSound Tryd.prog base W0 β0 H) (hrec0 : ∀ ⦃y0 : Sl⦄ ⦃y1 : (List UInt8)⦄ ⦃y5 : (Option HA)⦄ ⦃y6 : Int⦄ ⦃y7 : Int⦄ ⦃S : HS⦄ ⦃p : (Bool) × HS⦄ ⦃Gc Gd Ge Gi Gj Gk Gl Gm Gn Go Gp Gq Gr Gs Gt Gu Gv Gw Gx Gy Gz Ka Kb Kc Kd Ke Kf Kg Kh Ki Kj Kk Kl Km Kn Ko Kp Kq Kr Ks Kt Ku Kv Kw Kx Ky Kz Ma Mb Mc Md Me Mf Mg Mh Mi Mj Mk Ml Mm Mn Mo Mp Mq Mr Ms Mt Mu Mv Mw Mx My Mz Na Nb Nc Nd Ne Nf Ng Nh Ni Nj Nk Nl Nm Nn No Np Nq Nr Ns Nt Nu Nv Nw Nx Ny Nz Qa Qb Qc Qd Qe Qf Qg : HV⦄,rec0 y0 y1 y5 y6 y7 S = some p → HRun Tryd.prog base W0 β0 4 none [.inLoop c27,.inBlock 0,.code c49] ⟨[(Sl.hv y0),(.str y1),Gc,Gd,Ge,(.ptr y5),(.int .i64 y6),(.int .i64 y7),Gi,Gj,Gk,Gl,Gm,Gn,Go,Gp,Gq,Gr,Gs,Gt,Gu,Gv,Gw,Gx,Gy,Gz,Ka,Kb,Kc,Kd,Ke,Kf,Kg,Kh,Ki,Kj,Kk,Kl,Km,Kn,Ko,Kp,Kq,Kr,Ks,Kt,Ku,Kv,Kw,Kx,Ky,Kz,Ma,Mb,Mc,Md,Me,Mf,Mg,Mh,Mi,Mj,Mk,Ml,Mm,Mn,Mo,Mp,Mq,Mr,Ms,Mt,Mu,Mv,Mw,Mx,My,Mz,Na,Nb,Nc,Nd,Ne,Nf,Ng,Nh,Ni,Nj,Nk,Nl,Nm,Nn,No,Np,Nq,Nr,Ns,Nt,Nu,Nv,Nw,Nx,Ny,Nz,Qa,Qb,Qc,Qd,Qe,Qf,Qg],[]⟩ S (fun v S1 => v = (.bool p.1) ∧ S1 = p.2)) {y0 : Sl} {y1 : (List UInt8)} {y5 : (Option HA)} {y6 : Int} {y7 : Int} {S : HS} {p : (Bool) × HS} {Gc Gd Ge Gi Gj Gk Gl Gm Gn Go Gp Gq Gr Gs Gt Gu Gv Gw Gx Gy Gz Ka Kb Kc Kd Ke Kf Kg Kh Ki Kj Kk Kl Km Kn Ko Kp Kq Kr Ks Kt Ku Kv Kw Kx Ky Kz Ma Mb Mc Md Me Mf Mg Mh Mi Mj Mk Ml Mm Mn Mo Mp Mq Mr Ms Mt Mu Mv Mw Mx My Mz Na Nb Nc Nd Ne Nf Ng Nh Ni Nj Nk Nl Nm Nn No Np Nq Nr Ns Nt Nu Nv Nw Nx Ny Nz Qa Qb Qc Qd Qe Qf Qg : HV} (h : J2 D H k rec0 y0 y1 y5 y6 y7 S = some p) : HRun Tryd.prog base W0 β0 4 none [.code c48,.inLoop c27,.inBlock 0,.code c49] ⟨[(Sl.hv y0),(.str y1),Gc,Gd,Ge,(.ptr y5),(.int .i64 y6),(.int .i64 y7),Gi,Gj,Gk,Gl,Gm,Gn,Go,Gp,Gq,Gr,Gs,Gt,Gu,Gv,Gw,Gx,Gy,Gz,Ka,Kb,Kc,Kd,Ke,Kf,Kg,Kh,Ki,Kj,Kk,Kl,Km,Kn,Ko,Kp,Kq,Kr,Ks,Kt,Ku,Kv,Kw,Kx,Ky,Kz,Ma,Mb,Mc,Md,Me,Mf,Mg,Mh,Mi,Mj,Mk,Ml,Mm,Mn,Mo,Mp,Mq,Mr,Ms,Mt,Mu,Mv,Mw,Mx,My,Mz,Na,Nb,Nc,Nd,Ne,Nf,Ng,Nh,Ni,Nj,Nk,Nl,Nm,Nn,No,Np,Nq,Nr,Ns,Nt,Nu,Nv,Nw,Nx,Ny,Nz,Qa,Qb,Qc,Qd,Qe,Qf,Qg],[]⟩ S (fun v S1 => v = (.bool p.1) ∧ S1 = p.2) := by
 unfold J2 at h
 refine qR rfl rfl (qS 26 rfl (oM · rfl) (qS 27 rfl (oC · rfl rfl) (qS 7 rfl (oA · rfl) (rE ?_))))
 try dsimp only [w0,w1,w2,w3]
 try dsimp only [w0,w1,w2,w3]
 exact hrec0 h
def J5 (D : Dp) (H : Hd) (k : Nat) (y110 : Bool) (S : HS) : Option ((Bool) × HS) :=
 some (y110,S)
theorem J5_snd {D : Dp} {H : Hd} {k : Nat} (hD : DSound Tryd.prog base W0 D) (hH : HSound Tryd.prog base W0 β0 H)  {y110 : Bool} {S : HS} {p : (Bool) × HS} {Ga Gb Gc Gd Ge Gf Gg Gh Gi Gj Gk Gl Gm Gn Go Gp Gq Gr Gs Gt Gu Gv Gw Gx Gy Gz Ka Kb Kc Kd Ke Kf Kg Kh Ki Kj Kk Kl Km Kn Ko Kp Kq Kr Ks Kt Ku Kv Kw Kx Ky Kz Ma Mb Mc Md Me Mf Mg Mh Mi Mj Mk Ml Mm Mn Mo Mp Mq Mr Ms Mt Mu Mv Mw Mx My Mz Na Nb Nc Nd Ne Nf Ng Nh Ni Nj Nk Nl Nm Nn No Np Nq Nr Ns Nt Nu Nv Nw Nx Ny Nz Qa Qb Qc Qd Qe Qf : HV} (h : J5 D H k y110 S = some p) : HRun Tryd.prog base W0 β0 4 none [.inRegion r88 [5],.code c89] ⟨[Ga,Gb,Gc,Gd,Ge,Gf,Gg,Gh,Gi,Gj,Gk,Gl,Gm,Gn,Go,Gp,Gq,Gr,Gs,Gt,Gu,Gv,Gw,Gx,Gy,Gz,Ka,Kb,Kc,Kd,Ke,Kf,Kg,Kh,Ki,Kj,Kk,Kl,Km,Kn,Ko,Kp,Kq,Kr,Ks,Kt,Ku,Kv,Kw,Kx,Ky,Kz,Ma,Mb,Mc,Md,Me,Mf,Mg,Mh,Mi,Mj,Mk,Ml,Mm,Mn,Mo,Mp,Mq,Mr,Ms,Mt,Mu,Mv,Mw,Mx,My,Mz,Na,Nb,Nc,Nd,Ne,Nf,Ng,Nh,Ni,Nj,Nk,Nl,Nm,Nn,No,Np,Nq,Nr,Ns,Nt,Nu,Nv,Nw,Nx,Ny,Nz,Qa,Qb,Qc,Qd,Qe,Qf,(.bool y110)],[]⟩ S (fun v S1 => v = (.bool p.1) ∧ S1 = p.2) := by
 unfold J5 at h
 refine qS 4 rfl (oA · rfl) (rE ?_)
 try dsimp only [w0,w1,w2,w3]
 cases h
 exact q_ret rfl at_.at_ rfl (res1 rfl rfl) ⟨rfl,rfl⟩
def L4 (D : Dp) (H : Hd) (k : Nat) : Nat → Sl → (Option HA) → Int → Bool → Int → HS → Option ((Bool) × HS)
 | 0,_,_,_,_,_,_ => none
 | n + 1,y0,y5,y6,y9,y11,S =>
  (if y11 < (Sl.len y0 : Int) then
  (Option.bind (HS.idx S y0 y11 3) fun p37 =>
  (Option.bind (HS.ldI S .i64 (HA.fld p37 1)) fun p38 =>
  (Option.bind (wish_Lists_Clear.f D H k y5 p38 S) fun p39 =>
  (L4 D H k n) y0 y5 (w64 (y6 - p39.1)) y9 (w64 (y11 + 1)) p39.2))) else
  (if y9 = true then
  J5 D H k (decide (y6 = 0)) S else
  J5 D H k false S))
theorem L4_snd {D : Dp} {H : Hd} {k : Nat} (hD : DSound Tryd.prog base W0 D) (hH : HSound Tryd.prog base W0 β0 H)  : ∀ {n : Nat} ⦃y0 : Sl⦄ ⦃y5 : (Option HA)⦄ ⦃y6 : Int⦄ ⦃y9 : Bool⦄ ⦃y11 : Int⦄ ⦃S : HS⦄ ⦃p : (Bool) × HS⦄ ⦃Gb Gc Gd Ge Gh Gi Gk Gm Gn Go Gp Gq Gr Gs Gt Gu Gv Gw Gx Gy Gz Ka Kb Kc Kd Ke Kf Kg Kh Ki Kj Kk Kl Km Kn Ko Kp Kq Kr Ks Kt Ku Kv Kw Kx Ky Kz Ma Mb Mc Md Me Mf Mg Mh Mi Mj Mk Ml Mm Mn Mo Mp Mq Mr Ms Mt Mu Mv Mw Mx My Mz Na Nb Nc Nd Ne Nf Ng Nh Ni Nj Nk Nl Nm Nn No Np Nq Nr Ns Nt Nu Nv Nw Nx Ny Nz Qa Qb Qc Qd Qe Qf Qg : HV⦄,L4 D H k n y0 y5 y6 y9 y11 S = some p → HRun Tryd.prog base W0 β0 4 none [.inLoop c77,.inBlock 4,.code c87] ⟨[(Sl.hv y0),Gb,Gc,Gd,Ge,(.ptr y5),(.int .i64 y6),Gh,Gi,(.bool y9),Gk,(.int .i64 y11),Gm,Gn,Go,Gp,Gq,Gr,Gs,Gt,Gu,Gv,Gw,Gx,Gy,Gz,Ka,Kb,Kc,Kd,Ke,Kf,Kg,Kh,Ki,Kj,Kk,Kl,Km,Kn,Ko,Kp,Kq,Kr,Ks,Kt,Ku,Kv,Kw,Kx,Ky,Kz,Ma,Mb,Mc,Md,Me,Mf,Mg,Mh,Mi,Mj,Mk,Ml,Mm,Mn,Mo,Mp,Mq,Mr,Ms,Mt,Mu,Mv,Mw,Mx,My,Mz,Na,Nb,Nc,Nd,Ne,Nf,Ng,Nh,Ni,Nj,Nk,Nl,Nm,Nn,No,Np,Nq,Nr,Ns,Nt,Nu,Nv,Nw,Nx,Ny,Nz,Qa,Qb,Qc,Qd,Qe,Qf,Qg],[]⟩ S (fun v S1 => v = (.bool p.1) ∧ S1 = p.2) := by
 intro n
 induction n with
 | zero => intro _ _ _ _ _ _ _ _ _ _ _ _ _ _ _ _ _ _ _ _ _ _ _ _ _ _ _ _ _ _ _ _ _ _ _ _ _ _ _ _ _ _ _ _ _ _ _ _ _ _ _ _ _ _ _ _ _ _ _ _ _ _ _ _ _ _ _ _ _ _ _ _ _ _ _ _ _ _ _ _ _ _ _ _ _ _ _ _ _ _ _ _ _ _ _ _ _ _ _ _ _ _ _ _ _ _ _ _ _ _ _ _ _ h; cases h
 | succ n ih =>
  intro y0 y5 y6 y9 y11 S p Gb Gc Gd Ge Gh Gi Gk Gm Gn Go Gp Gq Gr Gs Gt Gu Gv Gw Gx Gy Gz Ka Kb Kc Kd Ke Kf Kg Kh Ki Kj Kk Kl Km Kn Ko Kp Kq Kr Ks Kt Ku Kv Kw Kx Ky Kz Ma Mb Mc Md Me Mf Mg Mh Mi Mj Mk Ml Mm Mn Mo Mp Mq Mr Ms Mt Mu Mv Mw Mx My Mz Na Nb Nc Nd Ne Nf Ng Nh Ni Nj Nk Nl Nm Nn No Np Nq Nr Ns Nt Nu Nv Nw Nx Ny Nz Qa Qb Qc Qd Qe Qf Qg h
  simp only [L4] at h
  refine hr_inLoop (qQ rfl (qQ rfl (qR rfl rfl (qS 91 rfl (oM · rfl) (qS 92 rfl (oM · rfl) (qS 93 rfl (ok_len_sl (q := Sl.a y0) (n := Sl.len y0) (z := Sl.cap y0) · rfl tu32 (.tmp rfl)) (qS 94 rfl (oB · rfl rfl rfl) (rE ?_))))))))
  try dsimp only [w0,w1,w2,w3]
  rcases ifc h with ⟨hc36,h⟩ | ⟨hc36,h⟩
  ·refine q_cond_t rfl (.tmp rfl) (decide_eq_true hc36) (q_skipc rfl (qQ rfl (q_block rfl (qR rfl rfl (qS 97 rfl (oM · rfl) (qS 98 rfl (oM · rfl) (qS 99 rfl (oM · rfl) (qS 100 rfl (oM · rfl) ?_))))))))
   try dsimp only [w0,w1,w2,w3]
   obtain ⟨p37,hp37,h⟩ := bindo h
   obtain ⟨p38,hp38,h⟩ := bindo h
   obtain ⟨p39,hp39,h⟩ := bindo h
   refine qS 101 rfl (oX (s := y0) · tu32 sz37 rfl rfl hp37) (qS 102 rfl (oF · fi37_1 (by decide) rfl rfl) (qS 103 rfl (oL · sc3 rfl rfl (ldI_out hp38)) (q_call (dst := some 104) rfl (.func _) (.cons (.tmp rfl) (.cons (.tmp rfl) Evs.nil)) (HInv.static wish_Lists_Clear.at_ wish_Lists_Clear.body (wish_Lists_Clear.snd hD hH hp39)) ?_)))
   rintro _ _ ⟨rfl,rfl⟩
   try dsimp only [w0,w1,w2,w3]
   refine qS 105 rfl (oB · rfl rfl rfl) (qS 6 rfl (oA · rfl) (rE ?_))
   try dsimp only [w0,w1,w2,w3]
   refine hr_inBlock (qR rfl rfl (qS 95 rfl (oM · rfl) (qS 96 rfl (oC · rfl rfl) (qS 11 rfl (oA · rfl) (rE ?_)))))
   try dsimp only [w0,w1,w2,w3]
   try dsimp only [w0,w1,w2,w3]
   exact ih h
  ·refine q_cond_f rfl (.tmp rfl) (decide_eq_false hc36) (q_exit rfl rfl (qQ rfl (qR rfl rfl (qS 106 rfl (oM · rfl) (qS 107 rfl (oM · rfl) ?_)))))
   rcases ifc h with ⟨hc40,h⟩ | ⟨hc40,h⟩
   ·refine qG 107 108 rfl hc40 (oM · rfl) (qG 107 109 rfl hc40 (oC · rfl rfl) ?_)
    try dsimp only [w0,w1,w2,w3]
    refine qS 110 rfl (ok_pick_tt · (.tmp rfl) hc40 (.tmp rfl)) ?_
    try dsimp only [w0,w1,w2,w3]
    exact J5_snd hD hH h
   ·refine q_skip (dst := some 108) (t := 107) rfl rfl rfl (bfalse hc40) (q_skip (dst := some 109) (t := 107) rfl rfl rfl (bfalse hc40) ?_)
    try dsimp only [w0,w1,w2,w3]
    refine qS 110 rfl (ok_pick_ff · (.tmp rfl) (bfalse hc40) (.bool _)) ?_
    try dsimp only [w0,w1,w2,w3]
    exact J5_snd hD hH h
def L3 (D : Dp) (H : Hd) (k : Nat) : Nat → Sl → (List UInt8) → (Option HA) → Int → Sl → Bool → Int → HS → Option ((Bool) × HS)
 | 0,_,_,_,_,_,_,_,_ => none
 | n + 1,y0,y1,y5,y6,y8,y9,y10,S =>
  (if y10 < (Sl.len y0 : Int) then
  (Option.bind (HS.idx S y0 y10 3) fun p25 =>
  (Option.bind (HS.ldI S .i64 (HA.fld p25 1)) fun p26 =>
  (Option.bind (rollcallref10_Has.f k y8 p26 S) fun p27 =>
  (Option.bind (HS.idx p27.2 y0 y10 3) fun p28 =>
  (Option.bind (HS.idx S y0 y10 3) fun p29 =>
  (if p29 = p28 then
  (Option.bind (HS.ldI p27.2 .i64 (HA.fld p28 1)) fun p31 =>
  (Option.bind (HS.ldI S .i64 (HA.fld p28 1)) fun p32 =>
  (if p32 = p31 then
  (Option.bind (wish_Lists_Has.f k y5 p31 y1 p27.2) fun p34 =>
  (if (!(p27.1 == p34.1)) = true then
  some (false,p34.2) else
  (L3 D H k n) y0 y1 y5 y6 y8 y9 (w64 (y10 + 1)) p34.2)) else none))) else none)))))) else
  L4 D H k k y0 y5 y6 y9 0 S)
theorem L3_snd {D : Dp} {H : Hd} {k : Nat} (hD : DSound Tryd.prog base W0 D) (hH : HSound Tryd.prog base W0 β0 H)  : ∀ {n : Nat} ⦃y0 : Sl⦄ ⦃y1 : (List UInt8)⦄ ⦃y5 : (Option HA)⦄ ⦃y6 : Int⦄ ⦃y8 : Sl⦄ ⦃y9 : Bool⦄ ⦃y10 : Int⦄ ⦃S : HS⦄ ⦃p : (Bool) × HS⦄ ⦃Gc Gd Ge Gh Gl Gm Gn Go Gp Gq Gr Gs Gt Gu Gv Gw Gx Gy Gz Ka Kb Kc Kd Ke Kf Kg Kh Ki Kj Kk Kl Km Kn Ko Kp Kq Kr Ks Kt Ku Kv Kw Kx Ky Kz Ma Mb Mc Md Me Mf Mg Mh Mi Mj Mk Ml Mm Mn Mo Mp Mq Mr Ms Mt Mu Mv Mw Mx My Mz Na Nb Nc Nd Ne Nf Ng Nh Ni Nj Nk Nl Nm Nn No Np Nq Nr Ns Nt Nu Nv Nw Nx Ny Nz Qa Qb Qc Qd Qe Qf Qg : HV⦄,L3 D H k n y0 y1 y5 y6 y8 y9 y10 S = some p → HRun Tryd.prog base W0 β0 4 none [.inLoop c56,.inBlock 2,.code c72] ⟨[(Sl.hv y0),(.str y1),Gc,Gd,Ge,(.ptr y5),(.int .i64 y6),Gh,(Sl.hv y8),(.bool y9),(.int .i64 y10),Gl,Gm,Gn,Go,Gp,Gq,Gr,Gs,Gt,Gu,Gv,Gw,Gx,Gy,Gz,Ka,Kb,Kc,Kd,Ke,Kf,Kg,Kh,Ki,Kj,Kk,Kl,Km,Kn,Ko,Kp,Kq,Kr,Ks,Kt,Ku,Kv,Kw,Kx,Ky,Kz,Ma,Mb,Mc,Md,Me,Mf,Mg,Mh,Mi,Mj,Mk,Ml,Mm,Mn,Mo,Mp,Mq,Mr,Ms,Mt,Mu,Mv,Mw,Mx,My,Mz,Na,Nb,Nc,Nd,Ne,Nf,Ng,Nh,Ni,Nj,Nk,Nl,Nm,Nn,No,Np,Nq,Nr,Ns,Nt,Nu,Nv,Nw,Nx,Ny,Nz,Qa,Qb,Qc,Qd,Qe,Qf,Qg],[]⟩ S (fun v S1 => v = (.bool p.1) ∧ S1 = p.2) := by
 intro n
 induction n with
 | zero => intro _ _ _ _ _ _ _ _ _ _ _ _ _ _ _ _ _ _ _ _ _ _ _ _ _ _ _ _ _ _ _ _ _ _ _ _ _ _ _ _ _ _ _ _ _ _ _ _ _ _ _ _ _ _ _ _ _ _ _ _ _ _ _ _ _ _ _ _ _ _ _ _ _ _ _ _ _ _ _ _ _ _ _ _ _ _ _ _ _ _ _ _ _ _ _ _ _ _ _ _ _ _ _ _ _ _ _ _ _ _ _ _ _ h; cases h
 | succ n ih =>
  intro y0 y1 y5 y6 y8 y9 y10 S p Gc Gd Ge Gh Gl Gm Gn Go Gp Gq Gr Gs Gt Gu Gv Gw Gx Gy Gz Ka Kb Kc Kd Ke Kf Kg Kh Ki Kj Kk Kl Km Kn Ko Kp Kq Kr Ks Kt Ku Kv Kw Kx Ky Kz Ma Mb Mc Md Me Mf Mg Mh Mi Mj Mk Ml Mm Mn Mo Mp Mq Mr Ms Mt Mu Mv Mw Mx My Mz Na Nb Nc Nd Ne Nf Ng Nh Ni Nj Nk Nl Nm Nn No Np Nq Nr Ns Nt Nu Nv Nw Nx Ny Nz Qa Qb Qc Qd Qe Qf Qg h
  simp only [L3] at h
  refine hr_inLoop (qQ rfl (qQ rfl (qR rfl rfl (qS 69 rfl (oM · rfl) (qS 70 rfl (oM · rfl) (qS 71 rfl (ok_len_sl (q := Sl.a y0) (n := Sl.len y0) (z := Sl.cap y0) · rfl tu32 (.tmp rfl)) (qS 72 rfl (oB · rfl rfl rfl) (rE ?_))))))))
  try dsimp only [w0,w1,w2,w3]
  rcases ifc h with ⟨hc24,h⟩ | ⟨hc24,h⟩
  ·refine q_cond_t rfl (.tmp rfl) (decide_eq_true hc24) (q_skipc rfl (qQ rfl (q_block rfl (qQ rfl ?_))))
   refine x_start (cls := [0,0,0,1,0,1,2,0,0,0,3,0,3,0,2,0]) (rk := [0,1,2,3,4,5,6,7,8,9,10,11,12,13,14,15]) rfl (by kernel_rfl) ?_
   refine xf 75 [8] rfl (oM · rfl) ?_
   refine xf 76 [0] rfl (oM · rfl) ?_
   refine xf 77 [10] rfl (oM · rfl) ?_
   obtain ⟨p25,hp25,h⟩ := bindo h
   refine xr 78 [76,77] rfl (oX (s := y0) · tu32 sz37 rfl rfl hp25) ?_
   try dsimp only [w0,w1,w2,w3]
   refine xf 79 [78] rfl (oF · fi37_1 (by decide) rfl rfl) ?_
   obtain ⟨p26,hp26,h⟩ := bindo h
   refine xr 80 [79] rfl (oL · sc3 rfl rfl (ldI_out hp26)) ?_
   obtain ⟨p27,hp27,h⟩ := bindo h
   refine x_goE (e_call (dst := some 81) (ts := [75,80]) rfl (by kernel_rfl) (.func _) (.cons (.tmp rfl) (.cons (.tmp rfl) Evs.nil)) (HInv.static rollcallref10_Has.at_ rollcallref10_Has.body (rollcallref10_Has.snd  hp27))) rfl trivial ?_
   refine xf 82 [5] rfl (oM · rfl) ?_
   try dsimp only [w0,w1,w2,w3]
   refine xf 83 [0] rfl (oM · rfl) ?_
   refine xf 84 [10] rfl (oM · rfl) ?_
   obtain ⟨p28,hp28,h⟩ := bindo h
   obtain ⟨p29,hp29,h⟩ := bindo h
   obtain ⟨hg30,h⟩ := gd h
   refine x_late (r_op (dst := some 85) (ts := [83,84]) rfl (by intro _ _ h; cases h) (by kernel_rfl) (fun _ ho => ok_indexAddr (s := y0) ho tu32 sz37 (.tmp rfl) (.tmp rfl) hp28)) rfl ⟨.inr (l_op (dst := some 85) (ts := [83,84]) rfl (by intro _ _ h; cases h) (by kernel_rfl) (fun _ ho => ok_indexAddr (s := y0) ho tu32 sz37 (.tmp rfl) (.tmp rfl) (hp29.trans (congrArg some hg30)))),trivial⟩ ?_
   refine xf 86 [85] rfl (oF · fi37_1 (by decide) rfl rfl) ?_
   try dsimp only [w0,w1,w2,w3]
   obtain ⟨p31,hp31,h⟩ := bindo h
   obtain ⟨p32,hp32,h⟩ := bindo h
   obtain ⟨hg33,h⟩ := gd h
   refine x_late (r_op (dst := some 87) (ts := [86]) rfl (by intro _ _ h; cases h) (by kernel_rfl) (fun _ ho => ok_load_s ho sc3 (.tmp rfl) rfl (ldI_out hp31))) rfl ⟨.inr (l_op (dst := some 87) (ts := [86]) rfl (by intro _ _ h; cases h) (by kernel_rfl) (fun _ ho => ok_load_s ho sc3 (.tmp rfl) rfl (ldI_out (hp32.trans (congrArg some hg33))))),trivial⟩ ?_
   refine xf 88 [1] rfl (oM · rfl) ?_
   obtain ⟨p34,hp34,h⟩ := bindo h
   refine x_goE (e_call (dst := some 89) (ts := [82,87,88]) rfl (by kernel_rfl) (.func _) (.cons (.tmp rfl) (.cons (.tmp rfl) (.cons (.tmp rfl) Evs.nil))) (HInv.static wish_Lists_Has.at_ wish_Lists_Has.body (wish_Lists_Has.snd  hp34))) rfl ⟨.inl (by kernel_rfl),.inl (by kernel_rfl),trivial⟩ ?_
   refine xf 90 [81,89] rfl (ok_beq · tu4 (.inr ⟨rfl,rfl⟩) (.tmp rfl) (.tmp rfl)) ?_
   refine x_rest rfl ?_
   refine rE ?_
   try dsimp only [w0,w1,w2,w3]
   rcases ifc h with ⟨hc35,h⟩ | ⟨hc35,h⟩
   ·refine q_cond_t rfl (.tmp rfl) hc35 (qQ rfl (qR rfl rfl (qS 4 rfl (ok_assign · (.bool _)) (rE ?_))))
    try dsimp only [w0,w1,w2,w3]
    cases h
    exact q_ret rfl at_.at_ rfl (res1 rfl rfl) ⟨rfl,rfl⟩
   ·refine q_cond_f rfl (.tmp rfl) (bfalse hc35) (q_skipc rfl (hr_inBlock (qR rfl rfl (qS 73 rfl (oM · rfl) (qS 74 rfl (oC · rfl rfl) (qS 10 rfl (oA · rfl) (rE ?_)))))))
    try dsimp only [w0,w1,w2,w3]
    try dsimp only [w0,w1,w2,w3]
    exact ih h
  ·refine q_cond_f rfl (.tmp rfl) (decide_eq_false hc24) (q_exit rfl rfl (qQ rfl (qQ rfl (qR rfl rfl (qS 11 rfl (ok_assign · (.int _ _)) (rE ?_))))))
   try dsimp only [w0,w1,w2,w3]
   refine q_block rfl (q_loop rfl ?_)
   try dsimp only [w0,w1,w2,w3]
   exact L4_snd hD hH h
def L1 (D : Dp) (H : Hd) (k : Nat) : Nat → Sl → (List UInt8) → (Option HA) → Int → Int → HS → Option ((Bool) × HS)
 | 0,_,_,_,_,_,_ => none
 | n + 1,y0,y1,y5,y6,y7,S =>
  (if y7 < (Sl.len y0 : Int) then
  (Option.bind (HS.idx S y0 y7 3) fun p8 =>
  (Option.bind (HS.ldI S .i64 (HA.fld p8 0)) fun p9 =>
  (if p9 = 1 then
  (Option.bind (HS.idx S y0 y7 3) fun p11 =>
  (Option.bind (HS.ldI S .i64 (HA.fld p11 1)) fun p12 =>
  (Option.bind (HS.idx S y0 y7 3) fun p13 =>
  (Option.bind (HS.ldS S (HA.fld p13 2)) fun p14 =>
  (Option.bind (wish_Lists_Remove.f k y5 p12 p14 S) fun p15 =>
  (if p15.1 = true then
  J2 D H k (L1 D H k n) y0 y1 y5 (w64 (y6 - 1)) y7 p15.2 else
  J2 D H k (L1 D H k n) y0 y1 y5 y6 y7 p15.2)))))) else
  (Option.bind (HS.idx S y0 y7 3) fun p17 =>
  (Option.bind (HS.ldI S .i64 (HA.fld p17 1)) fun p18 =>
  (Option.bind (HS.idx S y0 y7 3) fun p19 =>
  (Option.bind (HS.ldS S (HA.fld p19 2)) fun p20 =>
  (Option.bind (wish_Lists_Add.f k y5 p18 p20 S) fun p21 =>
  (if p21.1 = 0 then
  J2 D H k (L1 D H k n) y0 y1 y5 (w64 (y6 + 1)) y7 p21.2 else
  J2 D H k (L1 D H k n) y0 y1 y5 y6 y7 p21.2))))))))) else
  (Option.bind (rollcalllaw21_clients.f D H k y5 y1 S) fun p23 =>
  L3 D H k k y0 y1 y5 y6 p23.1.1 p23.1.2 0 p23.2))
theorem L1_snd {D : Dp} {H : Hd} {k : Nat} (hD : DSound Tryd.prog base W0 D) (hH : HSound Tryd.prog base W0 β0 H)  : ∀ {n : Nat} ⦃y0 : Sl⦄ ⦃y1 : (List UInt8)⦄ ⦃y5 : (Option HA)⦄ ⦃y6 : Int⦄ ⦃y7 : Int⦄ ⦃S : HS⦄ ⦃p : (Bool) × HS⦄ ⦃Gc Gd Ge Gi Gj Gk Gl Gm Gn Go Gp Gq Gr Gs Gt Gu Gv Gw Gx Gy Gz Ka Kb Kc Kd Ke Kf Kg Kh Ki Kj Kk Kl Km Kn Ko Kp Kq Kr Ks Kt Ku Kv Kw Kx Ky Kz Ma Mb Mc Md Me Mf Mg Mh Mi Mj Mk Ml Mm Mn Mo Mp Mq Mr Ms Mt Mu Mv Mw Mx My Mz Na Nb Nc Nd Ne Nf Ng Nh Ni Nj Nk Nl Nm Nn No Np Nq Nr Ns Nt Nu Nv Nw Nx Ny Nz Qa Qb Qc Qd Qe Qf Qg : HV⦄,L1 D H k n y0 y1 y5 y6 y7 S = some p → HRun Tryd.prog base W0 β0 4 none [.inLoop c27,.inBlock 0,.code c49] ⟨[(Sl.hv y0),(.str y1),Gc,Gd,Ge,(.ptr y5),(.int .i64 y6),(.int .i64 y7),Gi,Gj,Gk,Gl,Gm,Gn,Go,Gp,Gq,Gr,Gs,Gt,Gu,Gv,Gw,Gx,Gy,Gz,Ka,Kb,Kc,Kd,Ke,Kf,Kg,Kh,Ki,Kj,Kk,Kl,Km,Kn,Ko,Kp,Kq,Kr,Ks,Kt,Ku,Kv,Kw,Kx,Ky,Kz,Ma,Mb,Mc,Md,Me,Mf,Mg,Mh,Mi,Mj,Mk,Ml,Mm,Mn,Mo,Mp,Mq,Mr,Ms,Mt,Mu,Mv,Mw,Mx,My,Mz,Na,Nb,Nc,Nd,Ne,Nf,Ng,Nh,Ni,Nj,Nk,Nl,Nm,Nn,No,Np,Nq,Nr,Ns,Nt,Nu,Nv,Nw,Nx,Ny,Nz,Qa,Qb,Qc,Qd,Qe,Qf,Qg],[]⟩ S (fun v S1 => v = (.bool p.1) ∧ S1 = p.2) := by
 intro n
 induction n with
 | zero => intro _ _ _ _ _ _ _ _ _ _ _ _ _ _ _ _ _ _ _ _ _ _ _ _ _ _ _ _ _ _ _ _ _ _ _ _ _ _ _ _ _ _ _ _ _ _ _ _ _ _ _ _ _ _ _ _ _ _ _ _ _ _ _ _ _ _ _ _ _ _ _ _ _ _ _ _ _ _ _ _ _ _ _ _ _ _ _ _ _ _ _ _ _ _ _ _ _ _ _ _ _ _ _ _ _ _ _ _ _ _ _ _ _ h; cases h
 | succ n ih =>
  intro y0 y1 y5 y6 y7 S p Gc Gd Ge Gi Gj Gk Gl Gm Gn Go Gp Gq Gr Gs Gt Gu Gv Gw Gx Gy Gz Ka Kb Kc Kd Ke Kf Kg Kh Ki Kj Kk Kl Km Kn Ko Kp Kq Kr Ks Kt Ku Kv Kw Kx Ky Kz Ma Mb Mc Md Me Mf Mg Mh Mi Mj Mk Ml Mm Mn Mo Mp Mq Mr Ms Mt Mu Mv Mw Mx My Mz Na Nb Nc Nd Ne Nf Ng Nh Ni Nj Nk Nl Nm Nn No Np Nq Nr Ns Nt Nu Nv Nw Nx Ny Nz Qa Qb Qc Qd Qe Qf Qg h
  simp only [L1] at h
  refine hr_inLoop (qQ rfl (qQ rfl (qR rfl rfl (qS 22 rfl (oM · rfl) (qS 23 rfl (oM · rfl) (qS 24 rfl (ok_len_sl (q := Sl.a y0) (n := Sl.len y0) (z := Sl.cap y0) · rfl tu32 (.tmp rfl)) (qS 25 rfl (oB · rfl rfl rfl) (rE ?_))))))))
  try dsimp only [w0,w1,w2,w3]
  rcases ifc h with ⟨hc7,h⟩ | ⟨hc7,h⟩
  ·obtain ⟨p8,hp8,h⟩ := bindo h
   refine q_cond_t rfl (.tmp rfl) (decide_eq_true hc7) (q_skipc rfl (qQ rfl (q_block rfl (qQ rfl (qR rfl rfl (qS 28 rfl (oM · rfl) (qS 29 rfl (oM · rfl) (qS 30 rfl (oX (s := y0) · tu32 sz37 rfl rfl hp8) (qS 31 rfl (oF · fi37_0 (by decide) rfl rfl) ?_)))))))))
   try dsimp only [w0,w1,w2,w3]
   obtain ⟨p9,hp9,h⟩ := bindo h
   refine qS 32 rfl (oL · sc3 rfl rfl (ldI_out hp9)) (qS 33 rfl (oC · rfl rfl) (rE ?_))
   try dsimp only [w0,w1,w2,w3]
   rcases ifc h with ⟨hc10,h⟩ | ⟨hc10,h⟩
   ·refine q_cond_t rfl (.tmp rfl) (decide_eq_true hc10) (qQ rfl ?_)
    refine x_start (cls := [0,0,0,1,0,1,0,0,1,0,1,2]) (rk := [0,1,2,3,4,5,6,7,8,9,10,11]) rfl (by kernel_rfl) ?_
    refine yf 34 [5] rfl (oM · rfl) ?_
    refine yf 35 [0] rfl (oM · rfl) ?_
    refine yf 36 [7] rfl (oM · rfl) ?_
    obtain ⟨p11,hp11,h⟩ := bindo h
    refine yr 37 [35,36] rfl (oX (s := y0) · tu32 sz37 rfl rfl hp11) ?_
    try dsimp only [w0,w1,w2,w3]
    refine yf 38 [37] rfl (oF · fi37_1 (by decide) rfl rfl) ?_
    obtain ⟨p12,hp12,h⟩ := bindo h
    refine yr 39 [38] rfl (oL · sc3 rfl rfl (ldI_out hp12)) ?_
    refine yf 40 [0] rfl (oM · rfl) ?_
    refine yf 41 [7] rfl (oM · rfl) ?_
    try dsimp only [w0,w1,w2,w3]
    obtain ⟨p13,hp13,h⟩ := bindo h
    refine yr 42 [40,41] rfl (oX (s := y0) · tu32 sz37 rfl rfl hp13) ?_
    refine yf 43 [42] rfl (oF · fi37_2 (by decide) rfl rfl) ?_
    obtain ⟨p14,hp14,h⟩ := bindo h
    refine yr 44 [43] rfl (oL · sc9 rfl rfl (ldS_out hp14)) ?_
    obtain ⟨p15,hp15,h⟩ := bindo h
    refine x_go (e_call (dst := some 45) (ts := [34,39,44]) rfl (by kernel_rfl) (.func _) (.cons (.tmp rfl) (.cons (.tmp rfl) (.cons (.tmp rfl) Evs.nil))) (HInv.static wish_Lists_Remove.at_ wish_Lists_Remove.body (wish_Lists_Remove.snd  hp15))) rfl ?_
    refine x_rest rfl ?_
    refine rE ?_
    try dsimp only [w0,w1,w2,w3]
    rcases ifc h with ⟨hc16,h⟩ | ⟨hc16,h⟩
    ·refine q_cond_t rfl (.tmp rfl) hc16 (qR rfl rfl (qS 46 rfl (oM · rfl) (qS 47 rfl (oC · rfl rfl) (qS 6 rfl (oA · rfl) (rE ?_)))))
     try dsimp only [w0,w1,w2,w3]
     refine hr_inBlock ?_
     try dsimp only [w0,w1,w2,w3]
     exact J2_snd hD hH ih h
    ·refine q_cond_f rfl (.tmp rfl) (bfalse hc16) (q_skipc rfl (hr_inBlock ?_))
     try dsimp only [w0,w1,w2,w3]
     exact J2_snd hD hH ih h
   ·refine q_cond_f rfl (.tmp rfl) (decide_eq_false hc10) (qQ rfl ?_)
    refine x_start (cls := [0,0,0,1,0,1,0,0,1,0,1,2,0]) (rk := [0,1,2,3,4,5,6,7,8,9,10,11,12]) rfl (by kernel_rfl) ?_
    refine yf 48 [5] rfl (oM · rfl) ?_
    refine yf 49 [0] rfl (oM · rfl) ?_
    refine yf 50 [7] rfl (oM · rfl) ?_
    obtain ⟨p17,hp17,h⟩ := bindo h
    refine yr 51 [49,50] rfl (oX (s := y0) · tu32 sz37 rfl rfl hp17) ?_
    try dsimp only [w0,w1,w2,w3]
    refine yf 52 [51] rfl (oF · fi37_1 (by decide) rfl rfl) ?_
    obtain ⟨p18,hp18,h⟩ := bindo h
    refine yr 53 [52] rfl (oL · sc3 rfl rfl (ldI_out hp18)) ?_
    refine yf 54 [0] rfl (oM · rfl) ?_
    refine yf 55 [7] rfl (oM · rfl) ?_
    try dsimp only [w0,w1,w2,w3]
    obtain ⟨p19,hp19,h⟩ := bindo h
    refine yr 56 [54,55] rfl (oX (s := y0) · tu32 sz37 rfl rfl hp19) ?_
    refine yf 57 [56] rfl (oF · fi37_2 (by decide) rfl rfl) ?_
    obtain ⟨p20,hp20,h⟩ := bindo h
    refine yr 58 [57] rfl (oL · sc9 rfl rfl (ldS_out hp20)) ?_
    obtain ⟨p21,hp21,h⟩ := bindo h
    refine x_go (e_call (dst := some 59) (ts := [48,53,58]) rfl (by kernel_rfl) (.func _) (.cons (.tmp rfl) (.cons (.tmp rfl) (.cons (.tmp rfl) Evs.nil))) (HInv.static wish_Lists_Add.at_ wish_Lists_Add.body (wish_Lists_Add.snd  hp21))) rfl ?_
    try dsimp only [w0,w1,w2,w3]
    refine yf 60 [59] rfl (oC · rfl rfl) ?_
    refine x_rest rfl ?_
    refine rE ?_
    try dsimp only [w0,w1,w2,w3]
    rcases ifc h with ⟨hc22,h⟩ | ⟨hc22,h⟩
    ·refine q_cond_t rfl (.tmp rfl) (decide_eq_true hc22) (qR rfl rfl (qS 61 rfl (oM · rfl) (qS 62 rfl (oC · rfl rfl) (qS 6 rfl (oA · rfl) (rE ?_)))))
     try dsimp only [w0,w1,w2,w3]
     refine hr_inBlock ?_
     try dsimp only [w0,w1,w2,w3]
     exact J2_snd hD hH ih h
    ·refine q_cond_f rfl (.tmp rfl) (decide_eq_false hc22) (q_skipc rfl (hr_inBlock ?_))
     try dsimp only [w0,w1,w2,w3]
     exact J2_snd hD hH ih h
  ·obtain ⟨p23,hp23,h⟩ := bindo h
   refine q_cond_f rfl (.tmp rfl) (decide_eq_false hc7) (q_exit rfl rfl (qQ rfl (qR rfl rfl (qS 64 rfl (oM · rfl) (qS 65 rfl (oM · rfl) (q_call (dst := some 66) rfl (.func _) (.cons (.tmp rfl) (.cons (.tmp rfl) Evs.nil)) (HInv.static rollcalllaw21_clients.at_ rollcalllaw21_clients.body (rollcalllaw21_clients.snd hD hH hp23)) ?_))))))
   rintro _ _ ⟨rfl,rfl⟩
   refine qS 63 rfl (oM · rfl) ?_
   try dsimp only [w0,w1,w2,w3]
   refine qS 67 rfl (ok_extract · (.tmp rfl) rfl) (qS 68 rfl (ok_extract · (.tmp rfl) rfl) (qS 8 rfl (oA · rfl) (qS 9 rfl (oA · rfl) (rE ?_))))
   try dsimp only [w0,w1,w2,w3]
   refine qQ rfl (qQ rfl (qR rfl rfl (qS 10 rfl (ok_assign · (.int _ _)) (rE ?_))))
   try dsimp only [w0,w1,w2,w3]
   refine q_block rfl (q_loop rfl ?_)
   try dsimp only [w0,w1,w2,w3]
   exact L3_snd hD hH h
def J0 (D : Dp) (H : Hd) (k : Nat) (y0 : Sl) (y1 : (List UInt8)) (y20 : Bool) (S : HS) : Option ((Bool) × HS) :=
 (if y20 = true then
 some (true,S) else
 (Option.bind (wish_New.f 50 S) fun p6 =>
 L1 D H k k y0 y1 p6.1 0 0 p6.2))
theorem J0_snd {D : Dp} {H : Hd} {k : Nat} (hD : DSound Tryd.prog base W0 D) (hH : HSound Tryd.prog base W0 β0 H)  {y0 : Sl} {y1 : (List UInt8)} {y20 : Bool} {S : HS} {p : (Bool) × HS} {Gc Gd Ge Gf Gg Gh Gi Gj Gk Gl Gm Gn Go Gp Gq Gr Gs Gt Gv Gw Gx Gy Gz Ka Kb Kc Kd Ke Kf Kg Kh Ki Kj Kk Kl Km Kn Ko Kp Kq Kr Ks Kt Ku Kv Kw Kx Ky Kz Ma Mb Mc Md Me Mf Mg Mh Mi Mj Mk Ml Mm Mn Mo Mp Mq Mr Ms Mt Mu Mv Mw Mx My Mz Na Nb Nc Nd Ne Nf Ng Nh Ni Nj Nk Nl Nm Nn No Np Nq Nr Ns Nt Nu Nv Nw Nx Ny Nz Qa Qb Qc Qd Qe Qf Qg : HV} (h : J0 D H k y0 y1 y20 S = some p) : HRun Tryd.prog base W0 β0 4 none [.code c13,.code c18] ⟨[(Sl.hv y0),(.str y1),Gc,Gd,Ge,Gf,Gg,Gh,Gi,Gj,Gk,Gl,Gm,Gn,Go,Gp,Gq,Gr,Gs,Gt,(.bool y20),Gv,Gw,Gx,Gy,Gz,Ka,Kb,Kc,Kd,Ke,Kf,Kg,Kh,Ki,Kj,Kk,Kl,Km,Kn,Ko,Kp,Kq,Kr,Ks,Kt,Ku,Kv,Kw,Kx,Ky,Kz,Ma,Mb,Mc,Md,Me,Mf,Mg,Mh,Mi,Mj,Mk,Ml,Mm,Mn,Mo,Mp,Mq,Mr,Ms,Mt,Mu,Mv,Mw,Mx,My,Mz,Na,Nb,Nc,Nd,Ne,Nf,Ng,Nh,Ni,Nj,Nk,Nl,Nm,Nn,No,Np,Nq,Nr,Ns,Nt,Nu,Nv,Nw,Nx,Ny,Nz,Qa,Qb,Qc,Qd,Qe,Qf,Qg],[]⟩ S (fun v S1 => v = (.bool p.1) ∧ S1 = p.2) := by
 unfold J0 at h
 rcases ifc h with ⟨hc5,h⟩ | ⟨hc5,h⟩
 ·refine q_cond_t rfl (.tmp rfl) hc5 (qQ rfl (qR rfl rfl (qS 4 rfl (ok_assign · (.bool _)) (rE ?_))))
  try dsimp only [w0,w1,w2,w3]
  cases h
  exact q_ret rfl at_.at_ rfl (res1 rfl rfl) ⟨rfl,rfl⟩
 ·obtain ⟨p6,hp6,h⟩ := bindo h
  refine q_cond_f rfl (.tmp rfl) (bfalse hc5) (q_skipc rfl (qQ rfl (qR rfl rfl (q_call (dst := some 21) rfl (.func _) (.cons (.int _ _) Evs.nil) (HInv.static wish_New.at_ wish_New.body (wish_New.snd  hp6)) ?_))))
  rintro _ _ ⟨rfl,rfl⟩
  refine qS 5 rfl (oA · rfl) (rE ?_)
  try dsimp only [w0,w1,w2,w3]
  refine qQ rfl (qR rfl rfl (qS 6 rfl (ok_assign · (.int _ _)) (rE ?_)))
  try dsimp only [w0,w1,w2,w3]
  refine qQ rfl (qQ rfl (qR rfl rfl (qS 7 rfl (ok_assign · (.int _ _)) (rE ?_))))
  try dsimp only [w0,w1,w2,w3]
  refine q_block rfl (q_loop rfl ?_)
  try dsimp only [w0,w1,w2,w3]
  exact L1_snd hD hH h
def f (D : Dp) (H : Hd) (k : Nat) (x0 : Sl) (x1 : (List UInt8)) (S : HS) : Option ((Bool) × HS) :=
 (Option.bind (rollcalllaw21_awake.f k S) fun p1 =>
 (if (!p1.1) = true then
 some (false,p1.2) else
 (Option.bind (rollcalllaw21_great.f k x0 p1.2) fun p3 =>
 (if p3.1 = true then
 J0 D H k x0 x1 true p3.2 else
 J0 D H k x0 x1 (decide ((List.length x1 : Int) > 30)) p3.2))))
theorem snd {D : Dp} {H : Hd} {k : Nat} {x0 : Sl} {x1 : (List UInt8)} {S : HS} (hD : DSound Tryd.prog base W0 D) (hH : HSound Tryd.prog base W0 β0 H)  {p : (Bool) × HS} (h : f D H k x0 x1 S = some p) : HCall Tryd.prog base W0 β0 4 [(Sl.hv x0),(.str x1)] S (fun v S1 => v = (.bool p.1) ∧ S1 = p.2) := by
 unfold f at h
 refine HCall.of_run at_.at_ body ?_
 show HRun Tryd.prog base W0 β0 4 none [.code c0] ⟨[(Sl.hv x0),(.str x1),τ,τ,τ,τ,τ,τ,τ,τ,τ,τ,τ,τ,τ,τ,τ,τ,τ,τ,τ,τ,τ,τ,τ,τ,τ,τ,τ,τ,τ,τ,τ,τ,τ,τ,τ,τ,τ,τ,τ,τ,τ,τ,τ,τ,τ,τ,τ,τ,τ,τ,τ,τ,τ,τ,τ,τ,τ,τ,τ,τ,τ,τ,τ,τ,τ,τ,τ,τ,τ,τ,τ,τ,τ,τ,τ,τ,τ,τ,τ,τ,τ,τ,τ,τ,τ,τ,τ,τ,τ,τ,τ,τ,τ,τ,τ,τ,τ,τ,τ,τ,τ,τ,τ,τ,τ,τ,τ,τ,τ],[]⟩ S _
 refine qQ rfl (qR rfl rfl (qS 4 rfl (ok_assign · (.bool _)) (rE ?_)))
 try dsimp only [w0,w1,w2,w3]
 obtain ⟨p1,hp1,h⟩ := bindo h
 refine qQ rfl (qQ rfl (qR rfl rfl (q_call (dst := some 12) rfl (.func _) Evs.nil (HInv.static rollcalllaw21_awake.at_ rollcalllaw21_awake.body (rollcalllaw21_awake.snd  hp1)) ?_)))
 rintro _ _ ⟨rfl,rfl⟩
 refine qS 13 rfl (ok_not · (.tmp rfl)) (rE ?_)
 try dsimp only [w0,w1,w2,w3]
 rcases ifc h with ⟨hc2,h⟩ | ⟨hc2,h⟩
 ·refine q_cond_t rfl (.tmp rfl) hc2 (qQ rfl (qR rfl rfl (qS 4 rfl (ok_assign · (.bool _)) (rE ?_))))
  try dsimp only [w0,w1,w2,w3]
  cases h
  exact q_ret rfl at_.at_ rfl (res1 rfl rfl) ⟨rfl,rfl⟩
 ·obtain ⟨p3,hp3,h⟩ := bindo h
  refine q_cond_f rfl (.tmp rfl) (bfalse hc2) (q_skipc rfl (qQ rfl (qQ rfl (qR rfl rfl (qS 14 rfl (oM · rfl) (q_call (dst := some 15) rfl (.func _) (.cons (.tmp rfl) Evs.nil) (HInv.static rollcalllaw21_great.at_ rollcalllaw21_great.body (rollcalllaw21_great.snd  hp3)) ?_))))))
  rintro _ _ ⟨rfl,rfl⟩
  refine qS 16 rfl (oM · rfl) ?_
  rcases ifc h with ⟨hc4,h⟩ | ⟨hc4,h⟩
  ·refine q_skip (dst := some 17) (t := 16) rfl rfl rfl hc4 ?_
   try dsimp only [w0,w1,w2,w3]
   refine q_skip (dst := some 18) (t := 16) rfl rfl rfl hc4 (q_skip (dst := some 19) (t := 16) rfl rfl rfl hc4 (qS 20 rfl (ok_pick_tt · (.tmp rfl) hc4 (.bool _)) (rE ?_)))
   try dsimp only [w0,w1,w2,w3]
   try dsimp only [w0,w1,w2,w3]
   exact J0_snd hD hH h
  ·refine qG 16 17 rfl (bfalse hc4) (oM · rfl) ?_
   try dsimp only [w0,w1,w2,w3]
   refine qG 16 18 rfl (bfalse hc4) (ok_len_str · rfl tu9 (.tmp rfl)) (qG 16 19 rfl (bfalse hc4) (oC · rfl rfl) (qS 20 rfl (ok_pick_ff · (.tmp rfl) (bfalse hc4) (.tmp rfl)) (rE ?_)))
   try dsimp only [w0,w1,w2,w3]
   try dsimp only [w0,w1,w2,w3]
   exact J0_snd hD hH h
end
end rollcalllaw21_WishBoth
namespace rollcallref01_Byte
theorem at_ : FnAt Tryd.prog 54 Tryd.f54 := ⟨Tryd.func54,by kernel_rfl⟩
noncomputable def d0 := (Tryd.f54.body).getD .skip
noncomputable def r1 := kR (kA d0)
noncomputable def r3 := kR (kA (kB d0))
noncomputable def r5 := kR (kA (kB (kB d0)))
noncomputable def d6 := kB (kB (kB d0))
noncomputable def r8 := kR (kA (kA d6))
noncomputable def d10 := kA (kB (kA d6))
noncomputable def r13 := kR (kA (kA (kA d10)))
noncomputable def r20 := kR (kA (kA (kA (kB (kA d10)))))
noncomputable def r23 := kR (kA (kA (kB (kA (kA (kB (kA d10)))))))
noncomputable def r26 := kR (kB (kB (kA d10)))
noncomputable def r28 := kR (kA (kB d6))
noncomputable def c27 : Code := .seq (.region 8 r28 false) .ret
noncomputable def c11 : Code := .seq (.seq (.region 4 r13 false) (.cond (.tmp 9) .skip (.exit 0))) (.seq (.block 1 (.seq (.region 6 r20 false) (.cond (.tmp 16) (.seq (.region 7 r23 false) .ret) .skip))) (.region 5 r26 false))
noncomputable def c0 : Code := .seq (.region 0 r1 false) (.seq (.region 1 r3 false) (.seq (.region 2 r5 false) (.seq (.seq (.region 3 r8 false) (.block 0 (.loop c11))) c27)))
theorem body : Tryd.f54.body = some c0 := by kernel_rfl
section
variable {base : Nat} {W0 : World} {β0 : Bt}
def L0 (k : Nat) : Nat → Int → (List UInt8) → (List UInt8) → Int → Option (Int)
 | 0,_,_,_,_ => none
 | n + 1,y0,y3,y4,y5 =>
  (if y5 < (List.length y3 : Int) then
  (Option.bind (sat y3 y5) fun p2 =>
  (if (UInt8.toNat p2 : Int) = y0 then
  (Option.bind (sat y4 y5) fun p4 =>
  some (UInt8.toNat p4 : Int)) else
  (L0 k n) y0 y3 y4 (w64 (y5 + 1)))) else
  some y0)
theorem L0_snd {k : Nat}  : ∀ {n : Nat} ⦃y0 : Int⦄ ⦃y3 : (List UInt8)⦄ ⦃y4 : (List UInt8)⦄ ⦃y5 : Int⦄ ⦃S : HS⦄ ⦃p : Int⦄ ⦃Gb Gc Gg Gh Gi Gj Gk Gl Gm Gn Go Gp Gq Gr Gs Gt Gu : HV⦄,L0 k n y0 y3 y4 y5 = some p → HRun Tryd.prog base W0 β0 54 none [.inLoop c11,.inBlock 0,.code c27] ⟨[(.int .u8 y0),Gb,Gc,(.str y3),(.str y4),(.int .i64 y5),Gg,Gh,Gi,Gj,Gk,Gl,Gm,Gn,Go,Gp,Gq,Gr,Gs,Gt,Gu],[]⟩ S (fun v S1 => v = (.int .u8 p) ∧ S1 = S) := by
 intro n
 induction n with
 | zero => intro _ _ _ _ _ _ _ _ _ _ _ _ _ _ _ _ _ _ _ _ _ _ _ h; cases h
 | succ n ih =>
  intro y0 y3 y4 y5 S p Gb Gc Gg Gh Gi Gj Gk Gl Gm Gn Go Gp Gq Gr Gs Gt Gu h
  simp only [L0] at h
  refine hr_inLoop (qQ rfl (qQ rfl (qR rfl rfl (qS 6 rfl (oM · rfl) (qS 7 rfl (oM · rfl) (qS 8 rfl (ok_len_str · rfl tu9 (.tmp rfl)) (qS 9 rfl (oB · rfl rfl rfl) (rE ?_))))))))
  try dsimp only [w0,w1,w2,w3]
  rcases ifc h with ⟨hc1,h⟩ | ⟨hc1,h⟩
  ·obtain ⟨p2,hp2,h⟩ := bindo h
   refine q_cond_t rfl (.tmp rfl) (decide_eq_true hc1) (q_skipc rfl (qQ rfl (q_block rfl (qQ rfl (qR rfl rfl (qS 12 rfl (oM · rfl) (qS 13 rfl (oM · rfl) (qS 14 rfl (ok_index_s · tu9 (.tmp rfl) (.tmp rfl) hp2) (qS 15 rfl (oM · rfl) ?_)))))))))
   try dsimp only [w0,w1,w2,w3]
   refine qS 16 rfl (oB · rfl rfl rfl) (rE ?_)
   try dsimp only [w0,w1,w2,w3]
   rcases ifc h with ⟨hc3,h⟩ | ⟨hc3,h⟩
   ·obtain ⟨p4,hp4,h⟩ := bindo h
    refine q_cond_t rfl (.tmp rfl) (decide_eq_true hc3) (qQ rfl (qR rfl rfl (qS 17 rfl (oM · rfl) (qS 18 rfl (oM · rfl) (qS 19 rfl (ok_index_s · tu9 (.tmp rfl) (.tmp rfl) hp4) (qS 2 rfl (oA · rfl) (rE ?_)))))))
    try dsimp only [w0,w1,w2,w3]
    cases h
    exact q_ret rfl at_.at_ rfl (res1 rfl rfl) ⟨rfl,rfl⟩
   ·refine q_cond_f rfl (.tmp rfl) (decide_eq_false hc3) (q_skipc rfl (hr_inBlock (qR rfl rfl (qS 10 rfl (oM · rfl) (qS 11 rfl (oC · rfl rfl) (qS 5 rfl (oA · rfl) (rE ?_)))))))
    try dsimp only [w0,w1,w2,w3]
    try dsimp only [w0,w1,w2,w3]
    exact ih h
  ·refine q_cond_f rfl (.tmp rfl) (decide_eq_false hc1) (q_exit rfl rfl (qQ rfl (qR rfl rfl (qS 20 rfl (oM · rfl) (qS 2 rfl (oA · rfl) (rE ?_))))))
   try dsimp only [w0,w1,w2,w3]
   cases h
   exact q_ret rfl at_.at_ rfl (res1 rfl rfl) ⟨rfl,rfl⟩
def f (k : Nat) (x0 : Int) : Option (Int) :=
 L0 k k x0 ([65,66,67,68,69,70,71,72,73,74,75,76,77,78,79,80,81,82,83,84,85,86,87,88,89,90,91,93,92,126] : List UInt8) ([97,98,99,100,101,102,103,104,105,106,107,108,109,110,111,112,113,114,115,116,117,118,119,120,121,122,123,125,124,94] : List UInt8) 0
theorem snd {k : Nat} {x0 : Int} {S : HS}  {p : Int} (h : f k x0 = some p) : HCall Tryd.prog base W0 β0 54 [(.int .u8 x0)] S (fun v S1 => v = (.int .u8 p) ∧ S1 = S) := by
 unfold f at h
 refine HCall.of_run at_.at_ body ?_
 show HRun Tryd.prog base W0 β0 54 none [.code c0] ⟨[(.int .u8 x0),τ,τ,τ,τ,τ,τ,τ,τ,τ,τ,τ,τ,τ,τ,τ,τ,τ,τ,τ,τ],[]⟩ S _
 refine qQ rfl (qR rfl rfl (qS 2 rfl (ok_assign · (.int _ _)) (rE ?_)))
 try dsimp only [w0,w1,w2,w3]
 refine qQ rfl (qR rfl rfl (qS 3 rfl (ok_assign · (.str _)) (rE ?_)))
 try dsimp only [w0,w1,w2,w3]
 refine qQ rfl (qR rfl rfl (qS 4 rfl (ok_assign · (.str _)) (rE ?_)))
 try dsimp only [w0,w1,w2,w3]
 refine qQ rfl (qQ rfl (qR rfl rfl (qS 5 rfl (ok_assign · (.int _ _)) (rE ?_))))
 try dsimp only [w0,w1,w2,w3]
 refine q_block rfl (q_loop rfl ?_)
 try dsimp only [w0,w1,w2,w3]
 exact L0_snd  h
end
end rollcallref01_Byte
namespace rollcallref01_Text
theorem at_ : FnAt Tryd.prog 35 Tryd.f35 := ⟨Tryd.func35,by kernel_rfl⟩
noncomputable def d0 := (Tryd.f35.body).getD .skip
noncomputable def r1 := kR (kA d0)
noncomputable def r3 := kR (kA (kB d0))
noncomputable def d5 := kA (kB (kB d0))
noncomputable def r6 := kR (kA d5)
noncomputable def r11 := kR (kA (kA (kA (kA (kB d5)))))
noncomputable def r17 := kR (kA (kA (kB (kA (kA (kB d5))))))
noncomputable def r18 := kR (kB (kB (kA (kA (kB d5)))))
noncomputable def r20 := kR (kA (kB (kB (kB d0))))
noncomputable def c19 : Code := .seq (.region 6 r20 false) .ret
noncomputable def c9 : Code := .seq (.seq (.region 3 r11 false) (.cond (.tmp 8) .skip (.exit 0))) (.seq (.block 1 (.region 5 r17 false)) (.region 4 r18 false))
noncomputable def c0 : Code := .seq (.region 0 r1 false) (.seq (.region 1 r3 false) (.seq (.seq (.region 2 r6 false) (.block 0 (.loop c9))) c19))
theorem body : Tryd.f35.body = some c0 := by kernel_rfl
section
variable {base : Nat} {W0 : World} {β0 : Bt}
def L0 (k : Nat) : Nat → (List UInt8) → (List UInt8) → Int → HS → Option (((List UInt8)) × HS)
 | 0,_,_,_,_ => none
 | n + 1,y0,y3,y4,S =>
  (if y4 < (List.length y0 : Int) then
  (Option.bind (sat y0 y4) fun p2 =>
  (Option.bind (rollcallref01_Byte.f k (UInt8.toNat p2 : Int)) fun p3 =>
  (letv (HS.lit S [[(.int .u8 p3)]] 1) fun p4 =>
  (Option.bind (HS.text (p4.2) (p4.1)) fun p5 =>
  (if List.length y3 + List.length p5 ≤ 9223372036854775807 then
  (L0 k n) y0 (y3 ++ p5) (w64 (y4 + 1)) (p4.2) else none))))) else
  some (y3,S))
theorem L0_snd {k : Nat}  : ∀ {n : Nat} ⦃y0 : (List UInt8)⦄ ⦃y3 : (List UInt8)⦄ ⦃y4 : Int⦄ ⦃S : HS⦄ ⦃p : ((List UInt8)) × HS⦄ ⦃Gb Gc Gf Gg Gh Gi Gj Gk Gl Gm Gn Go Gp Gq Gr Gs Gt : HV⦄,L0 k n y0 y3 y4 S = some p → HRun Tryd.prog base W0 β0 35 none [.inLoop c9,.inBlock 0,.code c19] ⟨[(.str y0),Gb,Gc,(.str y3),(.int .i64 y4),Gf,Gg,Gh,Gi,Gj,Gk,Gl,Gm,Gn,Go,Gp,Gq,Gr,Gs,Gt],[]⟩ S (fun v S1 => v = (.str p.1) ∧ S1 = p.2) := by
 intro n
 induction n with
 | zero => intro _ _ _ _ _ _ _ _ _ _ _ _ _ _ _ _ _ _ _ _ _ _ h; cases h
 | succ n ih =>
  intro y0 y3 y4 S p Gb Gc Gf Gg Gh Gi Gj Gk Gl Gm Gn Go Gp Gq Gr Gs Gt h
  simp only [L0] at h
  refine hr_inLoop (qQ rfl (qQ rfl (qR rfl rfl (qS 5 rfl (oM · rfl) (qS 6 rfl (oM · rfl) (qS 7 rfl (ok_len_str · rfl tu9 (.tmp rfl)) (qS 8 rfl (oB · rfl rfl rfl) (rE ?_))))))))
  try dsimp only [w0,w1,w2,w3]
  rcases ifc h with ⟨hc1,h⟩ | ⟨hc1,h⟩
  ·obtain ⟨p2,hp2,h⟩ := bindo h
   refine q_cond_t rfl (.tmp rfl) (decide_eq_true hc1) (q_skipc rfl (qQ rfl (q_block rfl (qR rfl rfl (qS 11 rfl (oM · rfl) (qS 12 rfl (oM · rfl) (qS 13 rfl (oM · rfl) (qS 14 rfl (ok_index_s · tu9 (.tmp rfl) (.tmp rfl) hp2) ?_))))))))
   try dsimp only [w0,w1,w2,w3]
   obtain ⟨p3,hp3,h⟩ := bindo h
   refine q_call (dst := some 15) rfl (.func _) (.cons (.tmp rfl) Evs.nil) (HInv.static rollcallref01_Byte.at_ rollcallref01_Byte.body (rollcallref01_Byte.snd  hp3)) ?_
   rintro _ _ ⟨rfl,rfl⟩
   obtain ⟨p4,hp4,h⟩ := leto h
   obtain ⟨p5,hp5,h⟩ := bindo h
   obtain ⟨hg6,h⟩ := gd h
   refine qS 16 rfl (ok_buildSlice_s (xs := [(.tmp 15)]) el80 · rfl rfl (by decide) (.cons (.tmp rfl) Evs.nil) rfl rfl hp4) (qS 17 rfl (ok_str_of_bytes (s := (p4.1)) · tu80 tu5 tu9 (.tmp rfl) hp5) (qS 18 rfl (ok_sadd · (.tmp rfl) (.tmp rfl) hg6) ?_))
   try dsimp only [w0,w1,w2,w3]
   refine qS 3 rfl (oA · rfl) (rE ?_)
   try dsimp only [w0,w1,w2,w3]
   refine hr_inBlock (qR rfl rfl (qS 9 rfl (oM · rfl) (qS 10 rfl (oC · rfl rfl) (qS 4 rfl (oA · rfl) (rE ?_)))))
   try dsimp only [w0,w1,w2,w3]
   try dsimp only [w0,w1,w2,w3]
   exact ih h
  ·refine q_cond_f rfl (.tmp rfl) (decide_eq_false hc1) (q_exit rfl rfl (qQ rfl (qR rfl rfl (qS 19 rfl (oM · rfl) (qS 2 rfl (oA · rfl) (rE ?_))))))
   try dsimp only [w0,w1,w2,w3]
   cases h
   exact q_ret rfl at_.at_ rfl (res1 rfl rfl) ⟨rfl,rfl⟩
def f (k : Nat) (x0 : (List UInt8)) (S : HS) : Option (((List UInt8)) × HS) :=
 L0 k k x0 ([] : List UInt8) 0 S
theorem snd {k : Nat} {x0 : (List UInt8)} {S : HS}  {p : ((List UInt8)) × HS} (h : f k x0 S = some p) : HCall Tryd.prog base W0 β0 35 [(.str x0)] S (fun v S1 => v = (.str p.1) ∧ S1 = p.2) := by
 unfold f at h
 refine HCall.of_run at_.at_ body ?_
 show HRun Tryd.prog base W0 β0 35 none [.code c0] ⟨[(.str x0),τ,τ,τ,τ,τ,τ,τ,τ,τ,τ,τ,τ,τ,τ,τ,τ,τ,τ,τ],[]⟩ S _
 refine qQ rfl (qR rfl rfl (qS 2 rfl (ok_assign · (.str _)) (rE ?_)))
 try dsimp only [w0,w1,w2,w3]
 refine qQ rfl (qR rfl rfl (qS 3 rfl (ok_assign · (.str _)) (rE ?_)))
 try dsimp only [w0,w1,w2,w3]
 refine qQ rfl (qQ rfl (qR rfl rfl (qS 4 rfl (ok_assign · (.int _ _)) (rE ?_))))
 try dsimp only [w0,w1,w2,w3]
 refine q_block rfl (q_loop rfl ?_)
 try dsimp only [w0,w1,w2,w3]
 exact L0_snd  h
end
end rollcallref01_Text
namespace rollcallref01_Same
theorem at_ : FnAt Tryd.prog 20 Tryd.f20 := ⟨Tryd.func20,by kernel_rfl⟩
noncomputable def d0 := (Tryd.f20.body).getD .skip
noncomputable def r1 := kR (kA d0)
noncomputable def r3 := kR (kA (kB d0))
noncomputable def c0 : Code := .seq (.region 0 r1 false) (.seq (.region 1 r3 false) .ret)
theorem body : Tryd.f20.body = some c0 := by kernel_rfl
section
variable {base : Nat} {W0 : World} {β0 : Bt}
def f (k : Nat) (x0 : (List UInt8)) (x1 : (List UInt8)) (S : HS) : Option ((Bool) × HS) :=
 (Option.bind (rollcallref01_Text.f k x0 S) fun p1 =>
 (Option.bind (rollcallref01_Text.f k x1 p1.2) fun p2 =>
 some ((decide (p1.1 = p2.1)),p2.2)))
theorem snd {k : Nat} {x0 : (List UInt8)} {x1 : (List UInt8)} {S : HS}  {p : (Bool) × HS} (h : f k x0 x1 S = some p) : HCall Tryd.prog base W0 β0 20 [(.str x0),(.str x1)] S (fun v S1 => v = (.bool p.1) ∧ S1 = p.2) := by
 unfold f at h
 refine HCall.of_run at_.at_ body ?_
 show HRun Tryd.prog base W0 β0 20 none [.code c0] ⟨[(.str x0),(.str x1),τ,τ,τ,τ,τ,τ,τ,τ],[]⟩ S _
 refine qQ rfl (qR rfl rfl (qS 4 rfl (ok_assign · (.bool _)) (rE ?_)))
 try dsimp only [w0,w1,w2,w3]
 obtain ⟨p1,hp1,h⟩ := bindo h
 refine qQ rfl (qR rfl rfl (qS 5 rfl (oM · rfl) (q_call (dst := some 6) rfl (.func _) (.cons (.tmp rfl) Evs.nil) (HInv.static rollcallref01_Text.at_ rollcallref01_Text.body (rollcallref01_Text.snd  hp1)) ?_)))
 rintro _ _ ⟨rfl,rfl⟩
 obtain ⟨p2,hp2,h⟩ := bindo h
 refine qS 7 rfl (oM · rfl) (q_call (dst := some 8) rfl (.func _) (.cons (.tmp rfl) Evs.nil) (HInv.static rollcallref01_Text.at_ rollcallref01_Text.body (rollcallref01_Text.snd  hp2)) ?_)
 rintro _ _ ⟨rfl,rfl⟩
 try dsimp only [w0,w1,w2,w3]
 refine qS 9 rfl (ok_sbin · (.tmp rfl) (.tmp rfl) rfl) (qS 4 rfl (oA · rfl) (rE ?_))
 try dsimp only [w0,w1,w2,w3]
 cases h
 exact q_ret rfl at_.at_ rfl (res1 rfl rfl) ⟨rfl,rfl⟩
end
end rollcallref01_Same
namespace rollcalllaw21_names
theorem at_ : FnAt Tryd.prog 21 Tryd.f21 := ⟨Tryd.func21,by kernel_rfl⟩
noncomputable def d0 := (Tryd.f21.body).getD .skip
noncomputable def r1 := kR (kA d0)
noncomputable def r3 := kR (kA (kB d0))
noncomputable def r5 := kR (kA (kB (kB d0)))
noncomputable def d6 := kB (kB (kB d0))
noncomputable def r8 := kR (kA (kA d6))
noncomputable def r11 := kR (kA (kA (kB (kA d6))))
noncomputable def r16 := kR (kA (kA (kB d6)))
noncomputable def d17 := kB (kA (kB d6))
noncomputable def r19 := kR (kA (kA d17))
noncomputable def r23 := kR (kA (kA (kA (kB (kA d17)))))
noncomputable def r26 := kR (kA (kA (kB (kA (kA (kB (kA d17)))))))
noncomputable def r29 := kR (kB (kA (kB (kA d17))))
noncomputable def r31 := kR (kA (kB (kB d6)))
noncomputable def c20 : Code := .block 1 (.seq (.seq (.region 7 r23 false) (.cond (.tmp 18) (.seq (.region 8 r26 false) .ret) .skip)) (.region 9 r29 false))
noncomputable def c19 : Code := .region 6 r19 false
noncomputable def c0 : Code := .seq (.region 0 r1 false) (.seq (.region 1 r3 false) (.seq (.region 2 r5 false) (.seq (.seq (.region 3 r8 false) (.cond (.tmp 13) (.seq (.region 4 r11 false) .ret) .skip)) (.seq (.seq (.region 5 r16 false) (.block 0 (.rangeFunc (.tmp 14) #[15] c19 c20))) (.seq (.region 10 r31 false) .ret)))))
theorem body : Tryd.f21.body = some c0 := by kernel_rfl
section
variable {base : Nat} {W0 : World} {β0 : Bt}
def J0 (D : Dp) (H : Hd) (l : Nat) (y4 : (Option HA)) (y5 : (Option HA)) (y6 : (Option HA)) (y15 : (List UInt8)) (S : HS) : Option (HV × HS) :=
 (Option.bind (HS.begin_ S l) fun p12 =>
 (Option.bind (y6) fun p13 =>
 (Option.bind (HS.ldSl p12 p13) fun p14 =>
 (if (Sl.len p14 : Int) > 99 then
 (Option.bind (y4) fun p16 =>
 (Option.bind (HS.sets p12 p16 [(Sl.hv Sl.nil)]) fun p17 =>
 (Option.bind (y5) fun p18 =>
 (Option.bind (HS.sets p17 p18 [(.bool false)]) fun p19 =>
 (HS.endr p19 l (some .ret)))))) else
 (Option.bind (y6) fun p20 =>
 (Option.bind (HS.ldSl p12 p20) fun p21 =>
 (letv (HS.lit p12 [[(.str y15)]] 1) fun p22 =>
 (Option.bind (HS.rows (p22.2) (p22.1) 1) fun p23 =>
 (Option.bind (HS.app (p22.2) p21 p23 1) fun p24 =>
 (Option.bind (y6) fun p25 =>
 (Option.bind (HS.sets (p24.2) p25 [(Sl.hv (p24.1))]) fun p26 =>
 (HS.endr p26 l none))))))))))))
theorem J0_snd {D : Dp} {H : Hd} {l : Nat} (hD : DSound Tryd.prog base W0 D) (hH : HSound Tryd.prog base W0 β0 H)  {y4 : (Option HA)} {y5 : (Option HA)} {y6 : (Option HA)} {y15 : (List UInt8)} {S : HS} {p : HV × HS} {Ga Gb Gc Gd Gh Gi Gj Gk Gl Gm Gn Go Gq Gr Gs Gt Gu Gv Gw Gx : HV} (h : J0 D H l y4 y5 y6 y15 S = some p) : HRun Tryd.prog base W0 β0 21 (some l) [.code c19,.beginRound,.code c20] ⟨[Ga,Gb,Gc,Gd,(.ptr y4),(.ptr y5),(.ptr y6),Gh,Gi,Gj,Gk,Gl,Gm,Gn,Go,(.str y15),Gq,Gr,Gs,Gt,Gu,Gv,Gw,Gx],[]⟩ S (fun v S1 => v = p.1 ∧ S1 = p.2) := by
 unfold J0 at h
 refine qR rfl rfl (qS 8 rfl (oA · rfl) (rE ?_))
 try dsimp only [w0,w1,w2,w3]
 obtain ⟨p12,hp12,h⟩ := bindo h
 refine q_begin hp12 ?_
 obtain ⟨p13,hp13,h⟩ := bindo h
 obtain ⟨p14,hp14,h⟩ := bindo h
 refine q_block rfl (qQ rfl (qQ rfl (qR rfl rfl (qS 16 rfl (oL · sc22 rfl hp13 (ldSl_out hp14)) (qS 17 rfl (ok_len_sl (q := Sl.a p14) (n := Sl.len p14) (z := Sl.cap p14) · rfl tu22 (.tmp rfl)) (qS 18 rfl (oC · rfl rfl) (rE ?_)))))))
 try dsimp only [w0,w1,w2,w3]
 rcases ifc h with ⟨hc15,h⟩ | ⟨hc15,h⟩
 ·obtain ⟨p16,hp16,h⟩ := bindo h
  obtain ⟨p17,hp17,h⟩ := bindo h
  obtain ⟨p18,hp18,h⟩ := bindo h
  obtain ⟨p19,hp19,h⟩ := bindo h
  refine q_cond_t rfl (.tmp rfl) (decide_eq_true hc15) (qQ rfl (qR rfl rfl (qN rfl (ok_store_s (v := (Sl.hv Sl.nil)) · sz22 (.tmp rfl) hp16 (.const fun _ => .slNil none) rfl hp17) (qN rfl (ok_store_s (v := (.bool false)) · sz4 (.tmp rfl) hp18 (.bool _) rfl hp19) (rE ?_)))))
  try dsimp only [w0,w1,w2,w3]
  exact q_round_ret rfl h ⟨rfl,rfl⟩
 ·obtain ⟨p20,hp20,h⟩ := bindo h
  obtain ⟨p21,hp21,h⟩ := bindo h
  obtain ⟨p22,hp22,h⟩ := leto h
  obtain ⟨p23,hp23,h⟩ := bindo h
  obtain ⟨p24,hp24,h⟩ := bindo h
  refine q_cond_f rfl (.tmp rfl) (decide_eq_false hc15) (q_skipc rfl (qR rfl rfl (qS 19 rfl (oL · sc22 rfl hp20 (ldSl_out hp21)) (qS 20 rfl (oM · rfl) (qS 21 rfl (ok_buildSlice_s (xs := [(.tmp 20)]) el22 · rfl rfl (by decide) (.cons (.tmp rfl) Evs.nil) rfl rfl hp22) (qS 22 rfl (ok_append (s := p21) (s1 := (p22.1)) el22 · rfl rfl ⟨_,tu22⟩ (.tmp rfl) (.tmp rfl) hp23 hp24) ?_))))))
  try dsimp only [w0,w1,w2,w3]
  obtain ⟨p25,hp25,h⟩ := bindo h
  obtain ⟨p26,hp26,h⟩ := bindo h
  refine qN rfl (ok_store_s (v := (Sl.hv (p24.1))) · sz22 (.tmp rfl) hp25 (.tmp rfl) rfl hp26) (rE ?_)
  try dsimp only [w0,w1,w2,w3]
  refine hr_inBlock ?_
  exact q_round_end h ⟨rfl,rfl⟩
def f (D : Dp) (H : Hd) (x0 : (Option HA)) (x1 : Int) (S : HS) : Option ((Sl × Bool) × HS) :=
 (letv (HS.new S (.cells 1 [[(Sl.hv Sl.nil)]] true)) fun p1 =>
 (letv (HS.new p1 (.cells 1 [[(.bool false)]] true)) fun p2 =>
 (letv (HS.new p2 (.cells 1 [[(Sl.hv Sl.nil)]] true)) fun p3 =>
 (Option.bind (wish_Lists_Of.f D H x0 x1 p3) fun p4 =>
 (Option.bind (HV.isNilFn p4.1) fun p5 =>
 (if (p5) = true then
 (Option.bind (HS.sets p4.2 (HA.cell0 S.next) [(Sl.hv Sl.nil)]) fun p7 =>
 (Option.bind (HS.sets p7 (HA.cell0 p1.next) [(.bool false)]) fun p8 =>
 (Option.bind (HS.leave p8 []) fun p9 =>
 (Option.bind (HS.ldSl p9 (HA.cell0 S.next)) fun p10 =>
 (Option.bind (HS.ldB p9 (HA.cell0 p1.next)) fun p11 =>
 some ((p10,p11),p9)))))) else
 (Option.bind (D (Hd.set H (HS.next p4.2 + 1) fun vs T =>
 (Option.bind (HS.lp T (HS.next p4.2 + 1)) fun u29 =>
 (Option.bind (args1 vs) fun ar27 =>
 (Option.bind (dS ar27) fun p28 =>
 (J0 D H (HS.next p4.2 + 1) (some (HA.cell0 S.next)) (some (HA.cell0 p1.next)) (some (HA.cell0 p2.next)) p28 T))))) p4.1 [.fn (.yield (HS.next p4.2 + 1)) [] []] (HS.new (HS.new p4.2 .defer) (.loop .ready none))) fun p30 =>
 (Option.bind (HS.finish p30.2 (HS.next p4.2 + 1)) fun p31 =>
 (Option.bind (pcode p31.1) fun n32 =>
 (if n32 = 0 then
 (Option.bind (HS.ldSl p31.2 (HA.cell0 p2.next)) fun p34 =>
 (Option.bind (HS.sets p31.2 (HA.cell0 S.next) [(Sl.hv p34)]) fun p35 =>
 (Option.bind (HS.sets p35 (HA.cell0 p1.next) [(.bool true)]) fun p36 =>
 (Option.bind (HS.leave p36 (HS.next p4.2 :: [])) fun p37 =>
 (Option.bind (HS.ldSl p37 (HA.cell0 S.next)) fun p38 =>
 (Option.bind (HS.ldB p37 (HA.cell0 p1.next)) fun p39 =>
 some ((p38,p39),p37))))))) else
 (if n32 = 1 then
 (Option.bind (HS.leave p31.2 (HS.next p4.2 :: [])) fun p41 =>
 (Option.bind (HS.ldSl p41 (HA.cell0 S.next)) fun p42 =>
 (Option.bind (HS.ldB p41 (HA.cell0 p1.next)) fun p43 =>
 some ((p42,p43),p41)))) else
 none)))))))))))
theorem snd {D : Dp} {H : Hd} {x0 : (Option HA)} {x1 : Int} {S : HS} (hD : DSound Tryd.prog base W0 D) (hH : HSound Tryd.prog base W0 β0 H)  {p : (Sl × Bool) × HS} (h : f D H x0 x1 S = some p) : HCall Tryd.prog base W0 β0 21 [(.ptr x0),(.int .i64 x1)] S (fun v S1 => v = (.tup [(Sl.hv p.1.1),(.bool p.1.2)]) ∧ S1 = p.2) := by
 unfold f at h
 refine HCall.of_run at_.at_ body ?_
 show HRun Tryd.prog base W0 β0 21 none [.code c0] ⟨[(.ptr x0),(.int .i64 x1),τ,τ,τ,τ,τ,τ,τ,τ,τ,τ,τ,τ,τ,τ,τ,τ,τ,τ,τ,τ,τ,τ],[]⟩ S _
 obtain ⟨p1,hp1,h⟩ := leto h
 obtain ⟨p2,hp2,h⟩ := leto h
 refine qQ rfl (qR rfl rfl (qS 4 rfl (ok_alloc_e · zi22 zr22 (by decide) rfl hp1) (qS 5 rfl (ok_alloc_e · zi4 zr4 (by decide) rfl hp2) (rE ?_))))
 try dsimp only [w0,w1,w2,w3]
 obtain ⟨p3,hp3,h⟩ := leto h
 refine qQ rfl (qR rfl rfl (qS 6 rfl (ok_alloc_e · zi22 zr22 (by decide) rfl hp3) (rE ?_)))
 try dsimp only [w0,w1,w2,w3]
 obtain ⟨p4,hp4,h⟩ := bindo h
 refine qQ rfl (qR rfl rfl (qS 9 rfl (oM · rfl) (qS 10 rfl (oM · rfl) (q_call (dst := some 11) rfl (.func _) (.cons (.tmp rfl) (.cons (.tmp rfl) Evs.nil)) (HInv.static wish_Lists_Of.at_ wish_Lists_Of.body (wish_Lists_Of.snd hD hH hp4)) ?_))))
 rintro _ _ ⟨rfl,rfl⟩
 refine qS 7 rfl (oA · rfl) (rE ?_)
 try dsimp only [w0,w1,w2,w3]
 obtain ⟨p5,hp5,h⟩ := bindo h
 refine qQ rfl (qQ rfl (qR rfl rfl (qS 12 rfl (oM · rfl) (qS 13 rfl (ok_nil_fn · tu68 (.tmp rfl) hp5 (.inl ⟨rfl,rfl⟩)) (rE ?_)))))
 try dsimp only [w0,w1,w2,w3]
 rcases ifc h with ⟨hc6,h⟩ | ⟨hc6,h⟩
 ·obtain ⟨p7,hp7,h⟩ := bindo h
  obtain ⟨p8,hp8,h⟩ := bindo h
  refine q_cond_t rfl (.tmp rfl) hc6 (qQ rfl (qR rfl rfl (qN rfl (ok_store_s (v := (Sl.hv Sl.nil)) · sz22 (.tmp rfl) rfl (.const fun _ => .slNil none) rfl hp7) (qN rfl (ok_store_s (v := (.bool false)) · sz4 (.tmp rfl) rfl (.bool _) rfl hp8) (rE ?_)))))
  try dsimp only [w0,w1,w2,w3]
  obtain ⟨p9,hp9,h⟩ := bindo h
  obtain ⟨p10,hp10,h⟩ := bindo h
  obtain ⟨p11,hp11,h⟩ := bindo h
  cases h
  exact q_ret rfl at_.at_ hp9 (resL (rs := [.cell 4 22,.cell 5 4]) rfl (.cons (.cell rfl rfl sc22 (ldSl_out hp10)) (.cons (.cell rfl rfl sc4 (ldB_out hp11)) .nil)) (by simp)) ⟨rfl,rfl⟩
 ·refine q_cond_f rfl (.tmp rfl) (bfalse hc6) (q_skipc rfl (qQ rfl (qQ rfl (qR rfl rfl (qS 14 rfl (oM · rfl) (rE ?_))))))
  try dsimp only [w0,w1,w2,w3]
  obtain ⟨p30,hp30,h⟩ := bindo h
  obtain ⟨p31,hp31,h⟩ := bindo h
  obtain ⟨n32,hn32,h⟩ := bindo h
  refine q_block rfl ?_
  refine q_range (D := D) (H := H) rfl (.tmp rfl) hD hH hp30 hp31 ?_ ?_
  ·intro β1 hle hLA vs T u T' hr
   obtain ⟨u29,hu29,hr⟩ := bindo hr
   obtain ⟨ar27,har27,hr⟩ := bindo hr
   obtain ⟨p28,hp28,hr⟩ := bindo hr
   rw [args1_out har27]
   refine q_yield2 hLA hu29 rfl rfl ?_
   rw [dS_out hp28]
   simp only [HAct.params,List.set_cons_zero,List.set_cons_succ]
   exact J0_snd hD (hH.up hle) hr
  ·rcases ifc h with ⟨hc33,h⟩ | ⟨hc33,h⟩
   ·rw [pcode0 hn32 hc33]
    simp only [jumped_none,jumped_some]
    obtain ⟨p34,hp34,h⟩ := bindo h
    obtain ⟨p35,hp35,h⟩ := bindo h
    obtain ⟨p36,hp36,h⟩ := bindo h
    refine hr_inBlock (qQ rfl (qR rfl rfl (qS 23 rfl (oL · sc22 rfl rfl (ldSl_out hp34)) (qN rfl (ok_store_s (v := (Sl.hv p34)) · sz22 (.tmp rfl) rfl (.tmp rfl) rfl hp35) (qN rfl (ok_store_s (v := (.bool true)) · sz4 (.tmp rfl) rfl (.bool _) rfl hp36) (rE ?_))))))
    try dsimp only [w0,w1,w2,w3]
    obtain ⟨p37,hp37,h⟩ := bindo h
    obtain ⟨p38,hp38,h⟩ := bindo h
    obtain ⟨p39,hp39,h⟩ := bindo h
    cases h
    exact q_ret rfl at_.at_ hp37 (resL (rs := [.cell 4 22,.cell 5 4]) rfl (.cons (.cell rfl rfl sc22 (ldSl_out hp38)) (.cons (.cell rfl rfl sc4 (ldB_out hp39)) .nil)) (by simp)) ⟨rfl,rfl⟩
   ·rcases ifc h with ⟨hc40,h⟩ | ⟨hc40,h⟩
    ·rw [pcode1 hn32 hc40]
     simp only [jumped_none,jumped_some]
     obtain ⟨p41,hp41,h⟩ := bindo h
     obtain ⟨p42,hp42,h⟩ := bindo h
     obtain ⟨p43,hp43,h⟩ := bindo h
     cases h
     exact q_ret rfl at_.at_ hp41 (resL (rs := [.cell 4 22,.cell 5 4]) rfl (.cons (.cell rfl rfl sc22 (ldSl_out hp42)) (.cons (.cell rfl rfl sc4 (ldB_out hp43)) .nil)) (by simp)) ⟨rfl,rfl⟩
    ·cases h
end
end rollcalllaw21_names
namespace wish_Lists_Count
theorem at_ : FnAt Tryd.prog 22 Tryd.f22 := ⟨Tryd.func22,by kernel_rfl⟩
noncomputable def d0 := (Tryd.f22.body).getD .skip
noncomputable def r1 := kR (kA d0)
noncomputable def r4 := kR (kA (kA (kB d0)))
noncomputable def r7 := kR (kA (kA (kB (kA (kB d0)))))
noncomputable def r11 := kR (kA (kB (kB d0)))
noncomputable def c0 : Code := .seq (.region 0 r1 false) (.seq (.seq (.region 1 r4 false) (.cond (.tmp 6) (.seq (.region 2 r7 false) .ret) .skip)) (.seq (.region 3 r11 false) .ret))
theorem body : Tryd.f22.body = some c0 := by kernel_rfl
section
variable {base : Nat} {W0 : World} {β0 : Bt}
def f (x0 : (Option HA)) (x1 : Int) (S : HS) : Option ((Int) × HS) :=
 (if (Option.isNone x0) = true then
 some (0,S) else
 (Option.bind (x0) fun p2 =>
 (Option.bind (HS.ldP S (HA.fld p2 0)) fun p3 =>
 (Option.bind (pair_Rel_int_string_Count.f p3 x1 S) fun p4 =>
 some (p4.1,p4.2)))))
theorem snd {x0 : (Option HA)} {x1 : Int} {S : HS}  {p : (Int) × HS} (h : f x0 x1 S = some p) : HCall Tryd.prog base W0 β0 22 [(.ptr x0),(.int .i64 x1)] S (fun v S1 => v = (.int .i64 p.1) ∧ S1 = p.2) := by
 unfold f at h
 refine HCall.of_run at_.at_ body ?_
 show HRun Tryd.prog base W0 β0 22 none [.code c0] ⟨[(.ptr x0),(.int .i64 x1),τ,τ,τ,τ,τ,τ,τ,τ,τ,τ,τ],[]⟩ S _
 refine qQ rfl (qR rfl rfl (qS 4 rfl (ok_assign · (.int _ _)) (rE ?_)))
 try dsimp only [w0,w1,w2,w3]
 refine qQ rfl (qQ rfl (qR rfl rfl (qS 5 rfl (oM · rfl) (qS 6 rfl (ok_nil_ptr · tu34 (.tmp rfl) (.inl ⟨rfl,rfl⟩)) (rE ?_)))))
 try dsimp only [w0,w1,w2,w3]
 rcases ifc h with ⟨hc1,h⟩ | ⟨hc1,h⟩
 ·refine q_cond_t rfl (.tmp rfl) hc1 (qQ rfl (qR rfl rfl (qS 4 rfl (ok_assign · (.int _ _)) (rE ?_))))
  try dsimp only [w0,w1,w2,w3]
  cases h
  exact q_ret rfl at_.at_ rfl (res1 rfl rfl) ⟨rfl,rfl⟩
 ·obtain ⟨p2,hp2,h⟩ := bindo h
  obtain ⟨p3,hp3,h⟩ := bindo h
  refine q_cond_f rfl (.tmp rfl) (bfalse hc1) (q_skipc rfl (qQ rfl (qR rfl rfl (qS 7 rfl (oM · rfl) (qS 8 rfl (oN · rfl hp2) (qS 9 rfl (oF · fi60_0 (by decide) rfl rfl) (qS 10 rfl (oL · sc55 rfl rfl (ldP_out hp3)) ?_)))))))
  try dsimp only [w0,w1,w2,w3]
  obtain ⟨p4,hp4,h⟩ := bindo h
  refine qS 11 rfl (oM · rfl) (q_call (dst := some 12) rfl (.func _) (.cons (.tmp rfl) (.cons (.tmp rfl) Evs.nil)) (HInv.static pair_Rel_int_string_Count.at_ pair_Rel_int_string_Count.body (pair_Rel_int_string_Count.snd  hp4)) ?_)
  rintro _ _ ⟨rfl,rfl⟩
  refine qS 4 rfl (oA · rfl) (rE ?_)
  try dsimp only [w0,w1,w2,w3]
  cases h
  exact q_ret rfl at_.at_ rfl (res1 rfl rfl) ⟨rfl,rfl⟩
end
end wish_Lists_Count
namespace rollcalllaw21_WishNone
theorem at_ : FnAt Tryd.prog 5 Tryd.f5 := ⟨Tryd.func5,by kernel_rfl⟩
noncomputable def d0 := (Tryd.f5.body).getD .skip
noncomputable def r1 := kR (kA d0)
noncomputable def r4 := kR (kA (kA (kB d0)))
noncomputable def r7 := kR (kA (kA (kB (kA (kB d0)))))
noncomputable def r12 := kR (kA (kA (kB (kB d0))))
noncomputable def r15 := kR (kA (kA (kB (kA (kB (kB d0))))))
noncomputable def d18 := kB (kB (kB d0))
noncomputable def r19 := kR (kA d18)
noncomputable def r21 := kR (kA (kB d18))
noncomputable def r23 := kR (kA (kB (kB d18)))
noncomputable def d24 := kB (kB (kB d18))
noncomputable def r26 := kR (kA (kA d24))
noncomputable def r29 := kR (kA (kA (kB (kA d24))))
noncomputable def r33 := kR (kA (kB d24))
noncomputable def r35 := kR (kA (kB (kB d24)))
noncomputable def c36 : Code := .ret
noncomputable def c32 : Code := .seq (.region 10 r33 false) (.seq (.region 11 r35 false) c36)
noncomputable def c27 : Code := .cond (.tmp 84) (.seq (.region 9 r29 false) .ret) .skip
noncomputable def c18 : Code := .seq (.region 5 r19 false) (.seq (.region 6 r21 false) (.seq (.region 7 r23 false) (.seq (.seq (.region 8 r26 false) c27) c32)))
noncomputable def c13 : Code := .cond (.tmp 27) (.seq (.region 4 r15 false) .ret) .skip
noncomputable def c0 : Code := .seq (.region 0 r1 false) (.seq (.seq (.region 1 r4 false) (.cond (.tmp 14) (.seq (.region 2 r7 false) .ret) .skip)) (.seq (.seq (.region 3 r12 false) c13) c18))
theorem body : Tryd.f5.body = some c0 := by kernel_rfl
section
variable {base : Nat} {W0 : World} {β0 : Bt}
def J14 (D : Dp) (H : Hd) (k : Nat) (y131 : Bool) (S : HS) : Option ((Bool) × HS) :=
 some (y131,S)
theorem J14_snd {D : Dp} {H : Hd} {k : Nat} (hD : DSound Tryd.prog base W0 D) (hH : HSound Tryd.prog base W0 β0 H)  {y131 : Bool} {S : HS} {p : (Bool) × HS} {Ga Gb Gc Gd Ge Gf Gg Gh Gi Gj Gk Gl Gm Gn Go Gp Gq Gr Gs Gt Gu Gv Gw Gx Gy Gz Ka Kb Kc Kd Ke Kf Kg Kh Ki Kj Kk Kl Km Kn Ko Kp Kq Kr Ks Kt Ku Kv Kw Kx Ky Kz Ma Mb Mc Md Me Mf Mg Mh Mi Mj Mk Ml Mm Mn Mo Mp Mq Mr Ms Mt Mu Mv Mw Mx My Mz Na Nb Nc Nd Ne Nf Ng Nh Ni Nj Nk Nl Nm Nn No Np Nq Nr Ns Nt Nu Nv Nw Nx Ny Nz Qa Qb Qc Qd Qe Qf Qg Qh Qi Qj Qk Ql Qm Qn Qo Qp Qq Qr Qs Qt Qu Qv Qw Qx Qy Qz Ua : HV} (h : J14 D H k y131 S = some p) : HRun Tryd.prog base W0 β0 5 none [.inRegion r35 [46],.code c36] ⟨[Ga,Gb,Gc,Gd,Ge,Gf,Gg,Gh,Gi,Gj,Gk,Gl,Gm,Gn,Go,Gp,Gq,Gr,Gs,Gt,Gu,Gv,Gw,Gx,Gy,Gz,Ka,Kb,Kc,Kd,Ke,Kf,Kg,Kh,Ki,Kj,Kk,Kl,Km,Kn,Ko,Kp,Kq,Kr,Ks,Kt,Ku,Kv,Kw,Kx,Ky,Kz,Ma,Mb,Mc,Md,Me,Mf,Mg,Mh,Mi,Mj,Mk,Ml,Mm,Mn,Mo,Mp,Mq,Mr,Ms,Mt,Mu,Mv,Mw,Mx,My,Mz,Na,Nb,Nc,Nd,Ne,Nf,Ng,Nh,Ni,Nj,Nk,Nl,Nm,Nn,No,Np,Nq,Nr,Ns,Nt,Nu,Nv,Nw,Nx,Ny,Nz,Qa,Qb,Qc,Qd,Qe,Qf,Qg,Qh,Qi,Qj,Qk,Ql,Qm,Qn,Qo,Qp,Qq,Qr,Qs,Qt,Qu,Qv,Qw,Qx,Qy,Qz,Ua,(.bool y131)],[]⟩ S (fun v S1 => v = (.bool p.1) ∧ S1 = p.2) := by
 unfold J14 at h
 refine qS 6 rfl (oA · rfl) (rE ?_)
 try dsimp only [w0,w1,w2,w3]
 cases h
 exact q_ret rfl at_.at_ rfl (res1 rfl rfl) ⟨rfl,rfl⟩
def J13 (D : Dp) (H : Hd) (k : Nat) (y0 : Int) (y1 : (List UInt8)) (y12 : (Option HA)) (y124 : Bool) (S : HS) : Option ((Bool) × HS) :=
 (if y124 = true then
 (Option.bind (wish_Lists_Has.f k y12 y0 y1 S) fun p30 =>
 J14 D H k (!p30.1) p30.2) else
 J14 D H k false S)
theorem J13_snd {D : Dp} {H : Hd} {k : Nat} (hD : DSound Tryd.prog base W0 D) (hH : HSound Tryd.prog base W0 β0 H)  {y0 : Int} {y1 : (List UInt8)} {y12 : (Option HA)} {y124 : Bool} {S : HS} {p : (Bool) × HS} {Gc Gd Ge Gf Gg Gh Gi Gj Gk Gl Gn Go Gp Gq Gr Gs Gt Gu Gv Gw Gx Gy Gz Ka Kb Kc Kd Ke Kf Kg Kh Ki Kj Kk Kl Km Kn Ko Kp Kq Kr Ks Kt Ku Kv Kw Kx Ky Kz Ma Mb Mc Md Me Mf Mg Mh Mi Mj Mk Ml Mm Mn Mo Mp Mq Mr Ms Mt Mu Mv Mw Mx My Mz Na Nb Nc Nd Ne Nf Ng Nh Ni Nj Nk Nl Nm Nn No Np Nq Nr Ns Nt Nu Nv Nw Nx Ny Nz Qa Qb Qc Qd Qe Qf Qg Qh Qi Qj Qk Ql Qm Qn Qo Qp Qq Qr Qs Qt Qv Qw Qx Qy Qz Ua Ub : HV} (h : J13 D H k y0 y1 y12 y124 S = some p) : HRun Tryd.prog base W0 β0 5 none [.inRegion r35 [39,40,41,42,43,44,45,46],.code c36] ⟨[(.int .i64 y0),(.str y1),Gc,Gd,Ge,Gf,Gg,Gh,Gi,Gj,Gk,Gl,(.ptr y12),Gn,Go,Gp,Gq,Gr,Gs,Gt,Gu,Gv,Gw,Gx,Gy,Gz,Ka,Kb,Kc,Kd,Ke,Kf,Kg,Kh,Ki,Kj,Kk,Kl,Km,Kn,Ko,Kp,Kq,Kr,Ks,Kt,Ku,Kv,Kw,Kx,Ky,Kz,Ma,Mb,Mc,Md,Me,Mf,Mg,Mh,Mi,Mj,Mk,Ml,Mm,Mn,Mo,Mp,Mq,Mr,Ms,Mt,Mu,Mv,Mw,Mx,My,Mz,Na,Nb,Nc,Nd,Ne,Nf,Ng,Nh,Ni,Nj,Nk,Nl,Nm,Nn,No,Np,Nq,Nr,Ns,Nt,Nu,Nv,Nw,Nx,Ny,Nz,Qa,Qb,Qc,Qd,Qe,Qf,Qg,Qh,Qi,Qj,Qk,Ql,Qm,Qn,Qo,Qp,Qq,Qr,Qs,Qt,(.bool y124),Qv,Qw,Qx,Qy,Qz,Ua,Ub],[]⟩ S (fun v S1 => v = (.bool p.1) ∧ S1 = p.2) := by
 unfold J13 at h
 refine qS 125 rfl (oM · rfl) ?_
 try dsimp only [w0,w1,w2,w3]
 rcases ifc h with ⟨hc29,h⟩ | ⟨hc29,h⟩
 ·obtain ⟨p30,hp30,h⟩ := bindo h
  refine qG 125 126 rfl hc29 (oM · rfl) (qG 125 127 rfl hc29 (oM · rfl) (qG 125 128 rfl hc29 (oM · rfl) (q_call_g (t := 125) (dst := some 129) rfl rfl rfl hc29 (.func _) (.cons (.tmp rfl) (.cons (.tmp rfl) (.cons (.tmp rfl) Evs.nil))) (HInv.static wish_Lists_Has.at_ wish_Lists_Has.body (wish_Lists_Has.snd  hp30)) ?_)))
  rintro _ _ ⟨rfl,rfl⟩
  try dsimp only [w0,w1,w2,w3]
  refine qG 125 130 rfl hc29 (ok_not · (.tmp rfl)) (qS 131 rfl (ok_pick_tt · (.tmp rfl) hc29 (.tmp rfl)) ?_)
  try dsimp only [w0,w1,w2,w3]
  exact J14_snd hD hH h
 ·refine q_skip (dst := some 126) (t := 125) rfl rfl rfl (bfalse hc29) (q_skip (dst := some 127) (t := 125) rfl rfl rfl (bfalse hc29) (q_skip (dst := some 128) (t := 125) rfl rfl rfl (bfalse hc29) (q_skip (dst := some 129) (t := 125) rfl rfl rfl (bfalse hc29) ?_)))
  try dsimp only [w0,w1,w2,w3]
  refine q_skip (dst := some 130) (t := 125) rfl rfl rfl (bfalse hc29) (qS 131 rfl (ok_pick_ff · (.tmp rfl) (bfalse hc29) (.bool _)) ?_)
  try dsimp only [w0,w1,w2,w3]
  exact J14_snd hD hH h
def J12 (D : Dp) (H : Hd) (k : Nat) (y0 : Int) (y1 : (List UInt8)) (y2 : (List UInt8)) (y12 : (Option HA)) (y117 : Bool) (S : HS) : Option ((Bool) × HS) :=
 (if y117 = true then
 (Option.bind (wish_Lists_Add.f k y12 y0 y2 S) fun p28 =>
 J13 D H k y0 y1 y12 (decide (p28.1 = 0)) p28.2) else
 J13 D H k y0 y1 y12 false S)
theorem J12_snd {D : Dp} {H : Hd} {k : Nat} (hD : DSound Tryd.prog base W0 D) (hH : HSound Tryd.prog base W0 β0 H)  {y0 : Int} {y1 : (List UInt8)} {y2 : (List UInt8)} {y12 : (Option HA)} {y117 : Bool} {S : HS} {p : (Bool) × HS} {Gd Ge Gf Gg Gh Gi Gj Gk Gl Gn Go Gp Gq Gr Gs Gt Gu Gv Gw Gx Gy Gz Ka Kb Kc Kd Ke Kf Kg Kh Ki Kj Kk Kl Km Kn Ko Kp Kq Kr Ks Kt Ku Kv Kw Kx Ky Kz Ma Mb Mc Md Me Mf Mg Mh Mi Mj Mk Ml Mm Mn Mo Mp Mq Mr Ms Mt Mu Mv Mw Mx My Mz Na Nb Nc Nd Ne Nf Ng Nh Ni Nj Nk Nl Nm Nn No Np Nq Nr Ns Nt Nu Nv Nw Nx Ny Nz Qa Qb Qc Qd Qe Qf Qg Qh Qi Qj Qk Ql Qm Qo Qp Qq Qr Qs Qt Qu Qv Qw Qx Qy Qz Ua Ub : HV} (h : J12 D H k y0 y1 y2 y12 y117 S = some p) : HRun Tryd.prog base W0 β0 5 none [.inRegion r35 [32,33,34,35,36,37,38,39,40,41,42,43,44,45,46],.code c36] ⟨[(.int .i64 y0),(.str y1),(.str y2),Gd,Ge,Gf,Gg,Gh,Gi,Gj,Gk,Gl,(.ptr y12),Gn,Go,Gp,Gq,Gr,Gs,Gt,Gu,Gv,Gw,Gx,Gy,Gz,Ka,Kb,Kc,Kd,Ke,Kf,Kg,Kh,Ki,Kj,Kk,Kl,Km,Kn,Ko,Kp,Kq,Kr,Ks,Kt,Ku,Kv,Kw,Kx,Ky,Kz,Ma,Mb,Mc,Md,Me,Mf,Mg,Mh,Mi,Mj,Mk,Ml,Mm,Mn,Mo,Mp,Mq,Mr,Ms,Mt,Mu,Mv,Mw,Mx,My,Mz,Na,Nb,Nc,Nd,Ne,Nf,Ng,Nh,Ni,Nj,Nk,Nl,Nm,Nn,No,Np,Nq,Nr,Ns,Nt,Nu,Nv,Nw,Nx,Ny,Nz,Qa,Qb,Qc,Qd,Qe,Qf,Qg,Qh,Qi,Qj,Qk,Ql,Qm,(.bool y117),Qo,Qp,Qq,Qr,Qs,Qt,Qu,Qv,Qw,Qx,Qy,Qz,Ua,Ub],[]⟩ S (fun v S1 => v = (.bool p.1) ∧ S1 = p.2) := by
 unfold J12 at h
 refine qS 118 rfl (oM · rfl) ?_
 rcases ifc h with ⟨hc27,h⟩ | ⟨hc27,h⟩
 ·refine qG 118 119 rfl hc27 (oM · rfl) (qG 118 120 rfl hc27 (oM · rfl) (qG 118 121 rfl hc27 (oM · rfl) ?_))
  try dsimp only [w0,w1,w2,w3]
  obtain ⟨p28,hp28,h⟩ := bindo h
  refine q_call_g (t := 118) (dst := some 122) rfl rfl rfl hc27 (.func _) (.cons (.tmp rfl) (.cons (.tmp rfl) (.cons (.tmp rfl) Evs.nil))) (HInv.static wish_Lists_Add.at_ wish_Lists_Add.body (wish_Lists_Add.snd  hp28)) ?_
  rintro _ _ ⟨rfl,rfl⟩
  refine qG 118 123 rfl hc27 (oC · rfl rfl) (qS 124 rfl (ok_pick_tt · (.tmp rfl) hc27 (.tmp rfl)) ?_)
  try dsimp only [w0,w1,w2,w3]
  exact J13_snd hD hH h
 ·refine q_skip (dst := some 119) (t := 118) rfl rfl rfl (bfalse hc27) (q_skip (dst := some 120) (t := 118) rfl rfl rfl (bfalse hc27) (q_skip (dst := some 121) (t := 118) rfl rfl rfl (bfalse hc27) ?_))
  try dsimp only [w0,w1,w2,w3]
  refine q_skip (dst := some 122) (t := 118) rfl rfl rfl (bfalse hc27) (q_skip (dst := some 123) (t := 118) rfl rfl rfl (bfalse hc27) (qS 124 rfl (ok_pick_ff · (.tmp rfl) (bfalse hc27) (.bool _)) ?_))
  try dsimp only [w0,w1,w2,w3]
  exact J13_snd hD hH h
def J11 (D : Dp) (H : Hd) (k : Nat) (y0 : Int) (y1 : (List UInt8)) (y2 : (List UInt8)) (y12 : (Option HA)) (y111 : Bool) (S : HS) : Option ((Bool) × HS) :=
 (if y111 = true then
 (Option.bind (wish_Lists_Clear.f D H k y12 y0 S) fun p26 =>
 J12 D H k y0 y1 y2 y12 (decide (p26.1 = 1)) p26.2) else
 J12 D H k y0 y1 y2 y12 false S)
theorem J11_snd {D : Dp} {H : Hd} {k : Nat} (hD : DSound Tryd.prog base W0 D) (hH : HSound Tryd.prog base W0 β0 H)  {y0 : Int} {y1 : (List UInt8)} {y2 : (List UInt8)} {y12 : (Option HA)} {y111 : Bool} {S : HS} {p : (Bool) × HS} {Gd Ge Gf Gg Gh Gi Gj Gk Gl Gn Go Gp Gq Gr Gs Gt Gu Gv Gw Gx Gy Gz Ka Kb Kc Kd Ke Kf Kg Kh Ki Kj Kk Kl Km Kn Ko Kp Kq Kr Ks Kt Ku Kv Kw Kx Ky Kz Ma Mb Mc Md Me Mf Mg Mh Mi Mj Mk Ml Mm Mn Mo Mp Mq Mr Ms Mt Mu Mv Mw Mx My Mz Na Nb Nc Nd Ne Nf Ng Nh Ni Nj Nk Nl Nm Nn No Np Nq Nr Ns Nt Nu Nv Nw Nx Ny Nz Qa Qb Qc Qd Qe Qf Qg Qi Qj Qk Ql Qm Qn Qo Qp Qq Qr Qs Qt Qu Qv Qw Qx Qy Qz Ua Ub : HV} (h : J11 D H k y0 y1 y2 y12 y111 S = some p) : HRun Tryd.prog base W0 β0 5 none [.inRegion r35 [26,27,28,29,30,31,32,33,34,35,36,37,38,39,40,41,42,43,44,45,46],.code c36] ⟨[(.int .i64 y0),(.str y1),(.str y2),Gd,Ge,Gf,Gg,Gh,Gi,Gj,Gk,Gl,(.ptr y12),Gn,Go,Gp,Gq,Gr,Gs,Gt,Gu,Gv,Gw,Gx,Gy,Gz,Ka,Kb,Kc,Kd,Ke,Kf,Kg,Kh,Ki,Kj,Kk,Kl,Km,Kn,Ko,Kp,Kq,Kr,Ks,Kt,Ku,Kv,Kw,Kx,Ky,Kz,Ma,Mb,Mc,Md,Me,Mf,Mg,Mh,Mi,Mj,Mk,Ml,Mm,Mn,Mo,Mp,Mq,Mr,Ms,Mt,Mu,Mv,Mw,Mx,My,Mz,Na,Nb,Nc,Nd,Ne,Nf,Ng,Nh,Ni,Nj,Nk,Nl,Nm,Nn,No,Np,Nq,Nr,Ns,Nt,Nu,Nv,Nw,Nx,Ny,Nz,Qa,Qb,Qc,Qd,Qe,Qf,Qg,(.bool y111),Qi,Qj,Qk,Ql,Qm,Qn,Qo,Qp,Qq,Qr,Qs,Qt,Qu,Qv,Qw,Qx,Qy,Qz,Ua,Ub],[]⟩ S (fun v S1 => v = (.bool p.1) ∧ S1 = p.2) := by
 unfold J11 at h
 refine qS 112 rfl (oM · rfl) ?_
 rcases ifc h with ⟨hc25,h⟩ | ⟨hc25,h⟩
 ·refine qG 112 113 rfl hc25 (oM · rfl) ?_
  try dsimp only [w0,w1,w2,w3]
  obtain ⟨p26,hp26,h⟩ := bindo h
  refine qG 112 114 rfl hc25 (oM · rfl) (q_call_g (t := 112) (dst := some 115) rfl rfl rfl hc25 (.func _) (.cons (.tmp rfl) (.cons (.tmp rfl) Evs.nil)) (HInv.static wish_Lists_Clear.at_ wish_Lists_Clear.body (wish_Lists_Clear.snd hD hH hp26)) ?_)
  rintro _ _ ⟨rfl,rfl⟩
  refine qG 112 116 rfl hc25 (oC · rfl rfl) (qS 117 rfl (ok_pick_tt · (.tmp rfl) hc25 (.tmp rfl)) ?_)
  try dsimp only [w0,w1,w2,w3]
  try dsimp only [w0,w1,w2,w3]
  exact J12_snd hD hH h
 ·refine q_skip (dst := some 113) (t := 112) rfl rfl rfl (bfalse hc25) ?_
  try dsimp only [w0,w1,w2,w3]
  refine q_skip (dst := some 114) (t := 112) rfl rfl rfl (bfalse hc25) (q_skip (dst := some 115) (t := 112) rfl rfl rfl (bfalse hc25) (q_skip (dst := some 116) (t := 112) rfl rfl rfl (bfalse hc25) (qS 117 rfl (ok_pick_ff · (.tmp rfl) (bfalse hc25) (.bool _)) ?_)))
  try dsimp only [w0,w1,w2,w3]
  try dsimp only [w0,w1,w2,w3]
  exact J12_snd hD hH h
def J10 (D : Dp) (H : Hd) (k : Nat) (y0 : Int) (y1 : (List UInt8)) (y2 : (List UInt8)) (y12 : (Option HA)) (y104 : Bool) (S : HS) : Option ((Bool) × HS) :=
 (if y104 = true then
 (Option.bind (wish_Lists_Add.f k y12 y0 y2 S) fun p24 =>
 J11 D H k y0 y1 y2 y12 (decide (p24.1 = 7)) p24.2) else
 J11 D H k y0 y1 y2 y12 false S)
theorem J10_snd {D : Dp} {H : Hd} {k : Nat} (hD : DSound Tryd.prog base W0 D) (hH : HSound Tryd.prog base W0 β0 H)  {y0 : Int} {y1 : (List UInt8)} {y2 : (List UInt8)} {y12 : (Option HA)} {y104 : Bool} {S : HS} {p : (Bool) × HS} {Gd Ge Gf Gg Gh Gi Gj Gk Gl Gn Go Gp Gq Gr Gs Gt Gu Gv Gw Gx Gy Gz Ka Kb Kc Kd Ke Kf Kg Kh Ki Kj Kk Kl Km Kn Ko Kp Kq Kr Ks Kt Ku Kv Kw Kx Ky Kz Ma Mb Mc Md Me Mf Mg Mh Mi Mj Mk Ml Mm Mn Mo Mp Mq Mr Ms Mt Mu Mv Mw Mx My Mz Na Nb Nc Nd Ne Nf Ng Nh Ni Nj Nk Nl Nm Nn No Np Nq Nr Ns Nt Nu Nv Nw Nx Ny Nz Qb Qc Qd Qe Qf Qg Qh Qi Qj Qk Ql Qm Qn Qo Qp Qq Qr Qs Qt Qu Qv Qw Qx Qy Qz Ua Ub : HV} (h : J10 D H k y0 y1 y2 y12 y104 S = some p) : HRun Tryd.prog base W0 β0 5 none [.inRegion r35 [19,20,21,22,23,24,25,26,27,28,29,30,31,32,33,34,35,36,37,38,39,40,41,42,43,44,45,46],.code c36] ⟨[(.int .i64 y0),(.str y1),(.str y2),Gd,Ge,Gf,Gg,Gh,Gi,Gj,Gk,Gl,(.ptr y12),Gn,Go,Gp,Gq,Gr,Gs,Gt,Gu,Gv,Gw,Gx,Gy,Gz,Ka,Kb,Kc,Kd,Ke,Kf,Kg,Kh,Ki,Kj,Kk,Kl,Km,Kn,Ko,Kp,Kq,Kr,Ks,Kt,Ku,Kv,Kw,Kx,Ky,Kz,Ma,Mb,Mc,Md,Me,Mf,Mg,Mh,Mi,Mj,Mk,Ml,Mm,Mn,Mo,Mp,Mq,Mr,Ms,Mt,Mu,Mv,Mw,Mx,My,Mz,Na,Nb,Nc,Nd,Ne,Nf,Ng,Nh,Ni,Nj,Nk,Nl,Nm,Nn,No,Np,Nq,Nr,Ns,Nt,Nu,Nv,Nw,Nx,Ny,Nz,(.bool y104),Qb,Qc,Qd,Qe,Qf,Qg,Qh,Qi,Qj,Qk,Ql,Qm,Qn,Qo,Qp,Qq,Qr,Qs,Qt,Qu,Qv,Qw,Qx,Qy,Qz,Ua,Ub],[]⟩ S (fun v S1 => v = (.bool p.1) ∧ S1 = p.2) := by
 unfold J10 at h
 refine qS 105 rfl (oM · rfl) ?_
 try dsimp only [w0,w1,w2,w3]
 rcases ifc h with ⟨hc23,h⟩ | ⟨hc23,h⟩
 ·obtain ⟨p24,hp24,h⟩ := bindo h
  refine qG 105 106 rfl hc23 (oM · rfl) (qG 105 107 rfl hc23 (oM · rfl) (qG 105 108 rfl hc23 (oM · rfl) (q_call_g (t := 105) (dst := some 109) rfl rfl rfl hc23 (.func _) (.cons (.tmp rfl) (.cons (.tmp rfl) (.cons (.tmp rfl) Evs.nil))) (HInv.static wish_Lists_Add.at_ wish_Lists_Add.body (wish_Lists_Add.snd  hp24)) ?_)))
  rintro _ _ ⟨rfl,rfl⟩
  try dsimp only [w0,w1,w2,w3]
  refine qG 105 110 rfl hc23 (oC · rfl rfl) (qS 111 rfl (ok_pick_tt · (.tmp rfl) hc23 (.tmp rfl)) ?_)
  try dsimp only [w0,w1,w2,w3]
  exact J11_snd hD hH h
 ·refine q_skip (dst := some 106) (t := 105) rfl rfl rfl (bfalse hc23) (q_skip (dst := some 107) (t := 105) rfl rfl rfl (bfalse hc23) (q_skip (dst := some 108) (t := 105) rfl rfl rfl (bfalse hc23) (q_skip (dst := some 109) (t := 105) rfl rfl rfl (bfalse hc23) ?_)))
  try dsimp only [w0,w1,w2,w3]
  refine q_skip (dst := some 110) (t := 105) rfl rfl rfl (bfalse hc23) (qS 111 rfl (ok_pick_ff · (.tmp rfl) (bfalse hc23) (.bool _)) ?_)
  try dsimp only [w0,w1,w2,w3]
  exact J11_snd hD hH h
def J9 (D : Dp) (H : Hd) (k : Nat) (y0 : Int) (y1 : (List UInt8)) (y2 : (List UInt8)) (y12 : (Option HA)) (y97 : Bool) (S : HS) : Option ((Bool) × HS) :=
 (if y97 = true then
 (Option.bind (wish_Lists_Add.f k y12 y0 y1 S) fun p22 =>
 J10 D H k y0 y1 y2 y12 (decide (p22.1 = 6)) p22.2) else
 J10 D H k y0 y1 y2 y12 false S)
theorem J9_snd {D : Dp} {H : Hd} {k : Nat} (hD : DSound Tryd.prog base W0 D) (hH : HSound Tryd.prog base W0 β0 H)  {y0 : Int} {y1 : (List UInt8)} {y2 : (List UInt8)} {y12 : (Option HA)} {y97 : Bool} {S : HS} {p : (Bool) × HS} {Gd Ge Gf Gg Gh Gi Gj Gk Gl Gn Go Gp Gq Gr Gs Gt Gu Gv Gw Gx Gy Gz Ka Kb Kc Kd Ke Kf Kg Kh Ki Kj Kk Kl Km Kn Ko Kp Kq Kr Ks Kt Ku Kv Kw Kx Ky Kz Ma Mb Mc Md Me Mf Mg Mh Mi Mj Mk Ml Mm Mn Mo Mp Mq Mr Ms Mt Mu Mv Mw Mx My Mz Na Nb Nc Nd Ne Nf Ng Nh Ni Nj Nk Nl Nm Nn No Np Nq Nr Ns Nu Nv Nw Nx Ny Nz Qa Qb Qc Qd Qe Qf Qg Qh Qi Qj Qk Ql Qm Qn Qo Qp Qq Qr Qs Qt Qu Qv Qw Qx Qy Qz Ua Ub : HV} (h : J9 D H k y0 y1 y2 y12 y97 S = some p) : HRun Tryd.prog base W0 β0 5 none [.inRegion r35 [12,13,14,15,16,17,18,19,20,21,22,23,24,25,26,27,28,29,30,31,32,33,34,35,36,37,38,39,40,41,42,43,44,45,46],.code c36] ⟨[(.int .i64 y0),(.str y1),(.str y2),Gd,Ge,Gf,Gg,Gh,Gi,Gj,Gk,Gl,(.ptr y12),Gn,Go,Gp,Gq,Gr,Gs,Gt,Gu,Gv,Gw,Gx,Gy,Gz,Ka,Kb,Kc,Kd,Ke,Kf,Kg,Kh,Ki,Kj,Kk,Kl,Km,Kn,Ko,Kp,Kq,Kr,Ks,Kt,Ku,Kv,Kw,Kx,Ky,Kz,Ma,Mb,Mc,Md,Me,Mf,Mg,Mh,Mi,Mj,Mk,Ml,Mm,Mn,Mo,Mp,Mq,Mr,Ms,Mt,Mu,Mv,Mw,Mx,My,Mz,Na,Nb,Nc,Nd,Ne,Nf,Ng,Nh,Ni,Nj,Nk,Nl,Nm,Nn,No,Np,Nq,Nr,Ns,(.bool y97),Nu,Nv,Nw,Nx,Ny,Nz,Qa,Qb,Qc,Qd,Qe,Qf,Qg,Qh,Qi,Qj,Qk,Ql,Qm,Qn,Qo,Qp,Qq,Qr,Qs,Qt,Qu,Qv,Qw,Qx,Qy,Qz,Ua,Ub],[]⟩ S (fun v S1 => v = (.bool p.1) ∧ S1 = p.2) := by
 unfold J9 at h
 refine qS 98 rfl (oM · rfl) ?_
 rcases ifc h with ⟨hc21,h⟩ | ⟨hc21,h⟩
 ·refine qG 98 99 rfl hc21 (oM · rfl) (qG 98 100 rfl hc21 (oM · rfl) (qG 98 101 rfl hc21 (oM · rfl) ?_))
  try dsimp only [w0,w1,w2,w3]
  obtain ⟨p22,hp22,h⟩ := bindo h
  refine q_call_g (t := 98) (dst := some 102) rfl rfl rfl hc21 (.func _) (.cons (.tmp rfl) (.cons (.tmp rfl) (.cons (.tmp rfl) Evs.nil))) (HInv.static wish_Lists_Add.at_ wish_Lists_Add.body (wish_Lists_Add.snd  hp22)) ?_
  rintro _ _ ⟨rfl,rfl⟩
  refine qG 98 103 rfl hc21 (oC · rfl rfl) (qS 104 rfl (ok_pick_tt · (.tmp rfl) hc21 (.tmp rfl)) ?_)
  try dsimp only [w0,w1,w2,w3]
  exact J10_snd hD hH h
 ·refine q_skip (dst := some 99) (t := 98) rfl rfl rfl (bfalse hc21) (q_skip (dst := some 100) (t := 98) rfl rfl rfl (bfalse hc21) (q_skip (dst := some 101) (t := 98) rfl rfl rfl (bfalse hc21) ?_))
  try dsimp only [w0,w1,w2,w3]
  refine q_skip (dst := some 102) (t := 98) rfl rfl rfl (bfalse hc21) (q_skip (dst := some 103) (t := 98) rfl rfl rfl (bfalse hc21) (qS 104 rfl (ok_pick_ff · (.tmp rfl) (bfalse hc21) (.bool _)) ?_))
  try dsimp only [w0,w1,w2,w3]
  exact J10_snd hD hH h
def J8 (D : Dp) (H : Hd) (k : Nat) (y0 : Int) (y1 : (List UInt8)) (y2 : (List UInt8)) (y84 : Bool) (S : HS) : Option ((Bool) × HS) :=
 (if y84 = true then
 some (false,S) else
 (Option.bind (wish_New.f 1 S) fun p16 =>
 (Option.bind (wish_New.f 0 p16.2) fun p17 =>
 (Option.bind (wish_Lists_Add.f k p17.1 y0 y1 p17.2) fun p18 =>
 (if p18.1 = 7 then
 (Option.bind (wish_Lists_Add.f k p16.1 y0 y1 p18.2) fun p20 =>
 J9 D H k y0 y1 y2 p16.1 (decide (p20.1 = 0)) p20.2) else
 J9 D H k y0 y1 y2 p16.1 false p18.2)))))
theorem J8_snd {D : Dp} {H : Hd} {k : Nat} (hD : DSound Tryd.prog base W0 D) (hH : HSound Tryd.prog base W0 β0 H)  {y0 : Int} {y1 : (List UInt8)} {y2 : (List UInt8)} {y84 : Bool} {S : HS} {p : (Bool) × HS} {Gd Ge Gf Gg Gh Gi Gj Gk Gl Gm Gn Go Gp Gq Gr Gs Gt Gu Gv Gw Gx Gy Gz Ka Kb Kc Kd Ke Kf Kg Kh Ki Kj Kk Kl Km Kn Ko Kp Kq Kr Ks Kt Ku Kv Kw Kx Ky Kz Ma Mb Mc Md Me Mf Mg Mh Mi Mj Mk Ml Mm Mn Mo Mp Mq Mr Ms Mt Mu Mv Mw Mx My Mz Na Nb Nc Nd Ne Nf Nh Ni Nj Nk Nl Nm Nn No Np Nq Nr Ns Nt Nu Nv Nw Nx Ny Nz Qa Qb Qc Qd Qe Qf Qg Qh Qi Qj Qk Ql Qm Qn Qo Qp Qq Qr Qs Qt Qu Qv Qw Qx Qy Qz Ua Ub : HV} (h : J8 D H k y0 y1 y2 y84 S = some p) : HRun Tryd.prog base W0 β0 5 none [.code c27,.code c32] ⟨[(.int .i64 y0),(.str y1),(.str y2),Gd,Ge,Gf,Gg,Gh,Gi,Gj,Gk,Gl,Gm,Gn,Go,Gp,Gq,Gr,Gs,Gt,Gu,Gv,Gw,Gx,Gy,Gz,Ka,Kb,Kc,Kd,Ke,Kf,Kg,Kh,Ki,Kj,Kk,Kl,Km,Kn,Ko,Kp,Kq,Kr,Ks,Kt,Ku,Kv,Kw,Kx,Ky,Kz,Ma,Mb,Mc,Md,Me,Mf,Mg,Mh,Mi,Mj,Mk,Ml,Mm,Mn,Mo,Mp,Mq,Mr,Ms,Mt,Mu,Mv,Mw,Mx,My,Mz,Na,Nb,Nc,Nd,Ne,Nf,(.bool y84),Nh,Ni,Nj,Nk,Nl,Nm,Nn,No,Np,Nq,Nr,Ns,Nt,Nu,Nv,Nw,Nx,Ny,Nz,Qa,Qb,Qc,Qd,Qe,Qf,Qg,Qh,Qi,Qj,Qk,Ql,Qm,Qn,Qo,Qp,Qq,Qr,Qs,Qt,Qu,Qv,Qw,Qx,Qy,Qz,Ua,Ub],[]⟩ S (fun v S1 => v = (.bool p.1) ∧ S1 = p.2) := by
 unfold J8 at h
 rcases ifc h with ⟨hc15,h⟩ | ⟨hc15,h⟩
 ·refine q_cond_t rfl (.tmp rfl) hc15 (qQ rfl (qR rfl rfl (qS 6 rfl (ok_assign · (.bool _)) (rE ?_))))
  try dsimp only [w0,w1,w2,w3]
  cases h
  exact q_ret rfl at_.at_ rfl (res1 rfl rfl) ⟨rfl,rfl⟩
 ·obtain ⟨p16,hp16,h⟩ := bindo h
  refine q_cond_f rfl (.tmp rfl) (bfalse hc15) (q_skipc rfl (qQ rfl (qR rfl rfl (q_call (dst := some 85) rfl (.func _) (.cons (.int _ _) Evs.nil) (HInv.static wish_New.at_ wish_New.body (wish_New.snd  hp16)) ?_))))
  rintro _ _ ⟨rfl,rfl⟩
  refine qS 12 rfl (oA · rfl) (rE ?_)
  try dsimp only [w0,w1,w2,w3]
  obtain ⟨p17,hp17,h⟩ := bindo h
  refine qQ rfl (qR rfl rfl (q_call (dst := some 86) rfl (.func _) (.cons (.int _ _) Evs.nil) (HInv.static wish_New.at_ wish_New.body (wish_New.snd  hp17)) ?_))
  rintro _ _ ⟨rfl,rfl⟩
  obtain ⟨p18,hp18,h⟩ := bindo h
  refine qS 87 rfl (oM · rfl) (qS 88 rfl (oM · rfl) (q_call (dst := some 89) rfl (.func _) (.cons (.tmp rfl) (.cons (.tmp rfl) (.cons (.tmp rfl) Evs.nil))) (HInv.static wish_Lists_Add.at_ wish_Lists_Add.body (wish_Lists_Add.snd  hp18)) ?_))
  rintro _ _ ⟨rfl,rfl⟩
  try dsimp only [w0,w1,w2,w3]
  refine qS 90 rfl (oC · rfl rfl) (qS 91 rfl (oM · rfl) ?_)
  rcases ifc h with ⟨hc19,h⟩ | ⟨hc19,h⟩
  ·refine qG 91 92 rfl (decide_eq_true hc19) (oM · rfl) (qG 91 93 rfl (decide_eq_true hc19) (oM · rfl) ?_)
   try dsimp only [w0,w1,w2,w3]
   obtain ⟨p20,hp20,h⟩ := bindo h
   refine qG 91 94 rfl (decide_eq_true hc19) (oM · rfl) (q_call_g (t := 91) (dst := some 95) rfl rfl rfl (decide_eq_true hc19) (.func _) (.cons (.tmp rfl) (.cons (.tmp rfl) (.cons (.tmp rfl) Evs.nil))) (HInv.static wish_Lists_Add.at_ wish_Lists_Add.body (wish_Lists_Add.snd  hp20)) ?_)
   rintro _ _ ⟨rfl,rfl⟩
   refine qG 91 96 rfl (decide_eq_true hc19) (oC · rfl rfl) (qS 97 rfl (ok_pick_tt · (.tmp rfl) (decide_eq_true hc19) (.tmp rfl)) ?_)
   try dsimp only [w0,w1,w2,w3]
   try dsimp only [w0,w1,w2,w3]
   exact J9_snd hD hH h
  ·refine q_skip (dst := some 92) (t := 91) rfl rfl rfl (decide_eq_false hc19) (q_skip (dst := some 93) (t := 91) rfl rfl rfl (decide_eq_false hc19) ?_)
   try dsimp only [w0,w1,w2,w3]
   refine q_skip (dst := some 94) (t := 91) rfl rfl rfl (decide_eq_false hc19) (q_skip (dst := some 95) (t := 91) rfl rfl rfl (decide_eq_false hc19) (q_skip (dst := some 96) (t := 91) rfl rfl rfl (decide_eq_false hc19) (qS 97 rfl (ok_pick_ff · (.tmp rfl) (decide_eq_false hc19) (.bool _)) ?_)))
   try dsimp only [w0,w1,w2,w3]
   try dsimp only [w0,w1,w2,w3]
   exact J9_snd hD hH h
def J7 (D : Dp) (H : Hd) (k : Nat) (y0 : Int) (y1 : (List UInt8)) (y2 : (List UInt8)) (y7 : (Option HA)) (y78 : Bool) (S : HS) : Option ((Bool) × HS) :=
 (if y78 = true then
 J8 D H k y0 y1 y2 true S else
 (Option.bind (wish_Lists_Count.f y7 y0 S) fun p31 =>
 J8 D H k y0 y1 y2 (!decide (p31.1 = 0)) p31.2))
theorem J7_snd {D : Dp} {H : Hd} {k : Nat} (hD : DSound Tryd.prog base W0 D) (hH : HSound Tryd.prog base W0 β0 H)  {y0 : Int} {y1 : (List UInt8)} {y2 : (List UInt8)} {y7 : (Option HA)} {y78 : Bool} {S : HS} {p : (Bool) × HS} {Gd Ge Gf Gg Gi Gj Gk Gl Gm Gn Go Gp Gq Gr Gs Gt Gu Gv Gw Gx Gy Gz Ka Kb Kc Kd Ke Kf Kg Kh Ki Kj Kk Kl Km Kn Ko Kp Kq Kr Ks Kt Ku Kv Kw Kx Ky Kz Ma Mb Mc Md Me Mf Mg Mh Mi Mj Mk Ml Mm Mn Mo Mp Mq Mr Ms Mt Mu Mv Mw Mx My Mz Nb Nc Nd Ne Nf Ng Nh Ni Nj Nk Nl Nm Nn No Np Nq Nr Ns Nt Nu Nv Nw Nx Ny Nz Qa Qb Qc Qd Qe Qf Qg Qh Qi Qj Qk Ql Qm Qn Qo Qp Qq Qr Qs Qt Qu Qv Qw Qx Qy Qz Ua Ub : HV} (h : J7 D H k y0 y1 y2 y7 y78 S = some p) : HRun Tryd.prog base W0 β0 5 none [.inRegion r26 [39,40,41,42,43,44],.code c27,.code c32] ⟨[(.int .i64 y0),(.str y1),(.str y2),Gd,Ge,Gf,Gg,(.ptr y7),Gi,Gj,Gk,Gl,Gm,Gn,Go,Gp,Gq,Gr,Gs,Gt,Gu,Gv,Gw,Gx,Gy,Gz,Ka,Kb,Kc,Kd,Ke,Kf,Kg,Kh,Ki,Kj,Kk,Kl,Km,Kn,Ko,Kp,Kq,Kr,Ks,Kt,Ku,Kv,Kw,Kx,Ky,Kz,Ma,Mb,Mc,Md,Me,Mf,Mg,Mh,Mi,Mj,Mk,Ml,Mm,Mn,Mo,Mp,Mq,Mr,Ms,Mt,Mu,Mv,Mw,Mx,My,Mz,(.bool y78),Nb,Nc,Nd,Ne,Nf,Ng,Nh,Ni,Nj,Nk,Nl,Nm,Nn,No,Np,Nq,Nr,Ns,Nt,Nu,Nv,Nw,Nx,Ny,Nz,Qa,Qb,Qc,Qd,Qe,Qf,Qg,Qh,Qi,Qj,Qk,Ql,Qm,Qn,Qo,Qp,Qq,Qr,Qs,Qt,Qu,Qv,Qw,Qx,Qy,Qz,Ua,Ub],[]⟩ S (fun v S1 => v = (.bool p.1) ∧ S1 = p.2) := by
 unfold J7 at h
 refine qS 79 rfl (oM · rfl) ?_
 try dsimp only [w0,w1,w2,w3]
 rcases ifc h with ⟨hc14,h⟩ | ⟨hc14,h⟩
 ·refine q_skip (dst := some 80) (t := 79) rfl rfl rfl hc14 (q_skip (dst := some 81) (t := 79) rfl rfl rfl hc14 (q_skip (dst := some 82) (t := 79) rfl rfl rfl hc14 (q_skip (dst := some 83) (t := 79) rfl rfl rfl hc14 ?_)))
  try dsimp only [w0,w1,w2,w3]
  refine qS 84 rfl (ok_pick_tt · (.tmp rfl) hc14 (.bool _)) (rE ?_)
  try dsimp only [w0,w1,w2,w3]
  try dsimp only [w0,w1,w2,w3]
  exact J8_snd hD hH h
 ·obtain ⟨p31,hp31,h⟩ := bindo h
  refine qG 79 80 rfl (bfalse hc14) (oM · rfl) (qG 79 81 rfl (bfalse hc14) (oM · rfl) (q_call_g (t := 79) (dst := some 82) rfl rfl rfl (bfalse hc14) (.func _) (.cons (.tmp rfl) (.cons (.tmp rfl) Evs.nil)) (HInv.static wish_Lists_Count.at_ wish_Lists_Count.body (wish_Lists_Count.snd  hp31)) ?_))
  rintro _ _ ⟨rfl,rfl⟩
  refine qG 79 83 rfl (bfalse hc14) (oC · rfl rfl) ?_
  try dsimp only [w0,w1,w2,w3]
  refine qS 84 rfl (ok_pick_ff · (.tmp rfl) (bfalse hc14) (.tmp rfl)) (rE ?_)
  try dsimp only [w0,w1,w2,w3]
  try dsimp only [w0,w1,w2,w3]
  exact J8_snd hD hH h
def J6 (D : Dp) (H : Hd) (k : Nat) (y0 : Int) (y1 : (List UInt8)) (y2 : (List UInt8)) (y7 : (Option HA)) (y72 : Bool) (S : HS) : Option ((Bool) × HS) :=
 (if y72 = true then
 J7 D H k y0 y1 y2 y7 true S else
 (Option.bind (wish_Lists_Has.f k y7 y0 y1 S) fun p32 =>
 J7 D H k y0 y1 y2 y7 p32.1 p32.2))
theorem J6_snd {D : Dp} {H : Hd} {k : Nat} (hD : DSound Tryd.prog base W0 D) (hH : HSound Tryd.prog base W0 β0 H)  {y0 : Int} {y1 : (List UInt8)} {y2 : (List UInt8)} {y7 : (Option HA)} {y72 : Bool} {S : HS} {p : (Bool) × HS} {Gd Ge Gf Gg Gi Gj Gk Gl Gm Gn Go Gp Gq Gr Gs Gt Gu Gv Gw Gx Gy Gz Ka Kb Kc Kd Ke Kf Kg Kh Ki Kj Kk Kl Km Kn Ko Kp Kq Kr Ks Kt Ku Kv Kw Kx Ky Kz Ma Mb Mc Md Me Mf Mg Mh Mi Mj Mk Ml Mm Mn Mo Mp Mq Mr Ms Mt Mv Mw Mx My Mz Na Nb Nc Nd Ne Nf Ng Nh Ni Nj Nk Nl Nm Nn No Np Nq Nr Ns Nt Nu Nv Nw Nx Ny Nz Qa Qb Qc Qd Qe Qf Qg Qh Qi Qj Qk Ql Qm Qn Qo Qp Qq Qr Qs Qt Qu Qv Qw Qx Qy Qz Ua Ub : HV} (h : J6 D H k y0 y1 y2 y7 y72 S = some p) : HRun Tryd.prog base W0 β0 5 none [.inRegion r26 [33,34,35,36,37,38,39,40,41,42,43,44],.code c27,.code c32] ⟨[(.int .i64 y0),(.str y1),(.str y2),Gd,Ge,Gf,Gg,(.ptr y7),Gi,Gj,Gk,Gl,Gm,Gn,Go,Gp,Gq,Gr,Gs,Gt,Gu,Gv,Gw,Gx,Gy,Gz,Ka,Kb,Kc,Kd,Ke,Kf,Kg,Kh,Ki,Kj,Kk,Kl,Km,Kn,Ko,Kp,Kq,Kr,Ks,Kt,Ku,Kv,Kw,Kx,Ky,Kz,Ma,Mb,Mc,Md,Me,Mf,Mg,Mh,Mi,Mj,Mk,Ml,Mm,Mn,Mo,Mp,Mq,Mr,Ms,Mt,(.bool y72),Mv,Mw,Mx,My,Mz,Na,Nb,Nc,Nd,Ne,Nf,Ng,Nh,Ni,Nj,Nk,Nl,Nm,Nn,No,Np,Nq,Nr,Ns,Nt,Nu,Nv,Nw,Nx,Ny,Nz,Qa,Qb,Qc,Qd,Qe,Qf,Qg,Qh,Qi,Qj,Qk,Ql,Qm,Qn,Qo,Qp,Qq,Qr,Qs,Qt,Qu,Qv,Qw,Qx,Qy,Qz,Ua,Ub],[]⟩ S (fun v S1 => v = (.bool p.1) ∧ S1 = p.2) := by
 unfold J6 at h
 refine qS 73 rfl (oM · rfl) ?_
 rcases ifc h with ⟨hc13,h⟩ | ⟨hc13,h⟩
 ·refine q_skip (dst := some 74) (t := 73) rfl rfl rfl hc13 (q_skip (dst := some 75) (t := 73) rfl rfl rfl hc13 ?_)
  try dsimp only [w0,w1,w2,w3]
  refine q_skip (dst := some 76) (t := 73) rfl rfl rfl hc13 (q_skip (dst := some 77) (t := 73) rfl rfl rfl hc13 (qS 78 rfl (ok_pick_tt · (.tmp rfl) hc13 (.bool _)) ?_))
  try dsimp only [w0,w1,w2,w3]
  exact J7_snd hD hH h
 ·refine qG 73 74 rfl (bfalse hc13) (oM · rfl) (qG 73 75 rfl (bfalse hc13) (oM · rfl) ?_)
  try dsimp only [w0,w1,w2,w3]
  obtain ⟨p32,hp32,h⟩ := bindo h
  refine qG 73 76 rfl (bfalse hc13) (oM · rfl) (q_call_g (t := 73) (dst := some 77) rfl rfl rfl (bfalse hc13) (.func _) (.cons (.tmp rfl) (.cons (.tmp rfl) (.cons (.tmp rfl) Evs.nil))) (HInv.static wish_Lists_Has.at_ wish_Lists_Has.body (wish_Lists_Has.snd  hp32)) ?_)
  rintro _ _ ⟨rfl,rfl⟩
  refine qS 78 rfl (ok_pick_ff · (.tmp rfl) (bfalse hc13) (.tmp rfl)) ?_
  try dsimp only [w0,w1,w2,w3]
  exact J7_snd hD hH h
def J5 (D : Dp) (H : Hd) (k : Nat) (y0 : Int) (y1 : (List UInt8)) (y2 : (List UInt8)) (y7 : (Option HA)) (y66 : Bool) (S : HS) : Option ((Bool) × HS) :=
 (if y66 = true then
 J6 D H k y0 y1 y2 y7 true S else
 (Option.bind (wish_Lists_Clear.f D H k y7 y0 S) fun p33 =>
 J6 D H k y0 y1 y2 y7 (!decide (p33.1 = 0)) p33.2))
theorem J5_snd {D : Dp} {H : Hd} {k : Nat} (hD : DSound Tryd.prog base W0 D) (hH : HSound Tryd.prog base W0 β0 H)  {y0 : Int} {y1 : (List UInt8)} {y2 : (List UInt8)} {y7 : (Option HA)} {y66 : Bool} {S : HS} {p : (Bool) × HS} {Gd Ge Gf Gg Gi Gj Gk Gl Gm Gn Go Gp Gq Gr Gs Gt Gu Gv Gw Gx Gy Gz Ka Kb Kc Kd Ke Kf Kg Kh Ki Kj Kk Kl Km Kn Ko Kp Kq Kr Ks Kt Ku Kv Kw Kx Ky Kz Ma Mb Mc Md Me Mf Mg Mh Mi Mj Mk Ml Mm Mn Mp Mq Mr Ms Mt Mu Mv Mw Mx My Mz Na Nb Nc Nd Ne Nf Ng Nh Ni Nj Nk Nl Nm Nn No Np Nq Nr Ns Nt Nu Nv Nw Nx Ny Nz Qa Qb Qc Qd Qe Qf Qg Qh Qi Qj Qk Ql Qm Qn Qo Qp Qq Qr Qs Qt Qu Qv Qw Qx Qy Qz Ua Ub : HV} (h : J5 D H k y0 y1 y2 y7 y66 S = some p) : HRun Tryd.prog base W0 β0 5 none [.inRegion r26 [27,28,29,30,31,32,33,34,35,36,37,38,39,40,41,42,43,44],.code c27,.code c32] ⟨[(.int .i64 y0),(.str y1),(.str y2),Gd,Ge,Gf,Gg,(.ptr y7),Gi,Gj,Gk,Gl,Gm,Gn,Go,Gp,Gq,Gr,Gs,Gt,Gu,Gv,Gw,Gx,Gy,Gz,Ka,Kb,Kc,Kd,Ke,Kf,Kg,Kh,Ki,Kj,Kk,Kl,Km,Kn,Ko,Kp,Kq,Kr,Ks,Kt,Ku,Kv,Kw,Kx,Ky,Kz,Ma,Mb,Mc,Md,Me,Mf,Mg,Mh,Mi,Mj,Mk,Ml,Mm,Mn,(.bool y66),Mp,Mq,Mr,Ms,Mt,Mu,Mv,Mw,Mx,My,Mz,Na,Nb,Nc,Nd,Ne,Nf,Ng,Nh,Ni,Nj,Nk,Nl,Nm,Nn,No,Np,Nq,Nr,Ns,Nt,Nu,Nv,Nw,Nx,Ny,Nz,Qa,Qb,Qc,Qd,Qe,Qf,Qg,Qh,Qi,Qj,Qk,Ql,Qm,Qn,Qo,Qp,Qq,Qr,Qs,Qt,Qu,Qv,Qw,Qx,Qy,Qz,Ua,Ub],[]⟩ S (fun v S1 => v = (.bool p.1) ∧ S1 = p.2) := by
 unfold J5 at h
 refine qS 67 rfl (oM · rfl) ?_
 try dsimp only [w0,w1,w2,w3]
 rcases ifc h with ⟨hc12,h⟩ | ⟨hc12,h⟩
 ·refine q_skip (dst := some 68) (t := 67) rfl rfl rfl hc12 (q_skip (dst := some 69) (t := 67) rfl rfl rfl hc12 (q_skip (dst := some 70) (t := 67) rfl rfl rfl hc12 (q_skip (dst := some 71) (t := 67) rfl rfl rfl hc12 ?_)))
  try dsimp only [w0,w1,w2,w3]
  refine qS 72 rfl (ok_pick_tt · (.tmp rfl) hc12 (.bool _)) ?_
  try dsimp only [w0,w1,w2,w3]
  exact J6_snd hD hH h
 ·obtain ⟨p33,hp33,h⟩ := bindo h
  refine qG 67 68 rfl (bfalse hc12) (oM · rfl) (qG 67 69 rfl (bfalse hc12) (oM · rfl) (q_call_g (t := 67) (dst := some 70) rfl rfl rfl (bfalse hc12) (.func _) (.cons (.tmp rfl) (.cons (.tmp rfl) Evs.nil)) (HInv.static wish_Lists_Clear.at_ wish_Lists_Clear.body (wish_Lists_Clear.snd hD hH hp33)) ?_))
  rintro _ _ ⟨rfl,rfl⟩
  refine qG 67 71 rfl (bfalse hc12) (oC · rfl rfl) ?_
  try dsimp only [w0,w1,w2,w3]
  refine qS 72 rfl (ok_pick_ff · (.tmp rfl) (bfalse hc12) (.tmp rfl)) ?_
  try dsimp only [w0,w1,w2,w3]
  exact J6_snd hD hH h
def J4 (D : Dp) (H : Hd) (k : Nat) (y0 : Int) (y1 : (List UInt8)) (y2 : (List UInt8)) (y7 : (Option HA)) (y60 : Bool) (S : HS) : Option ((Bool) × HS) :=
 (if y60 = true then
 J5 D H k y0 y1 y2 y7 true S else
 (Option.bind (wish_Lists_Remove.f k y7 y0 y1 S) fun p34 =>
 J5 D H k y0 y1 y2 y7 p34.1 p34.2))
theorem J4_snd {D : Dp} {H : Hd} {k : Nat} (hD : DSound Tryd.prog base W0 D) (hH : HSound Tryd.prog base W0 β0 H)  {y0 : Int} {y1 : (List UInt8)} {y2 : (List UInt8)} {y7 : (Option HA)} {y60 : Bool} {S : HS} {p : (Bool) × HS} {Gd Ge Gf Gg Gi Gj Gk Gl Gm Gn Go Gp Gq Gr Gs Gt Gu Gv Gw Gx Gy Gz Ka Kb Kc Kd Ke Kf Kg Kh Ki Kj Kk Kl Km Kn Ko Kp Kq Kr Ks Kt Ku Kv Kw Kx Ky Kz Ma Mb Mc Md Me Mf Mg Mh Mj Mk Ml Mm Mn Mo Mp Mq Mr Ms Mt Mu Mv Mw Mx My Mz Na Nb Nc Nd Ne Nf Ng Nh Ni Nj Nk Nl Nm Nn No Np Nq Nr Ns Nt Nu Nv Nw Nx Ny Nz Qa Qb Qc Qd Qe Qf Qg Qh Qi Qj Qk Ql Qm Qn Qo Qp Qq Qr Qs Qt Qu Qv Qw Qx Qy Qz Ua Ub : HV} (h : J4 D H k y0 y1 y2 y7 y60 S = some p) : HRun Tryd.prog base W0 β0 5 none [.inRegion r26 [21,22,23,24,25,26,27,28,29,30,31,32,33,34,35,36,37,38,39,40,41,42,43,44],.code c27,.code c32] ⟨[(.int .i64 y0),(.str y1),(.str y2),Gd,Ge,Gf,Gg,(.ptr y7),Gi,Gj,Gk,Gl,Gm,Gn,Go,Gp,Gq,Gr,Gs,Gt,Gu,Gv,Gw,Gx,Gy,Gz,Ka,Kb,Kc,Kd,Ke,Kf,Kg,Kh,Ki,Kj,Kk,Kl,Km,Kn,Ko,Kp,Kq,Kr,Ks,Kt,Ku,Kv,Kw,Kx,Ky,Kz,Ma,Mb,Mc,Md,Me,Mf,Mg,Mh,(.bool y60),Mj,Mk,Ml,Mm,Mn,Mo,Mp,Mq,Mr,Ms,Mt,Mu,Mv,Mw,Mx,My,Mz,Na,Nb,Nc,Nd,Ne,Nf,Ng,Nh,Ni,Nj,Nk,Nl,Nm,Nn,No,Np,Nq,Nr,Ns,Nt,Nu,Nv,Nw,Nx,Ny,Nz,Qa,Qb,Qc,Qd,Qe,Qf,Qg,Qh,Qi,Qj,Qk,Ql,Qm,Qn,Qo,Qp,Qq,Qr,Qs,Qt,Qu,Qv,Qw,Qx,Qy,Qz,Ua,Ub],[]⟩ S (fun v S1 => v = (.bool p.1) ∧ S1 = p.2) := by
 unfold J4 at h
 refine qS 61 rfl (oM · rfl) ?_
 rcases ifc h with ⟨hc11,h⟩ | ⟨hc11,h⟩
 ·refine q_skip (dst := some 62) (t := 61) rfl rfl rfl hc11 (q_skip (dst := some 63) (t := 61) rfl rfl rfl hc11 ?_)
  try dsimp only [w0,w1,w2,w3]
  refine q_skip (dst := some 64) (t := 61) rfl rfl rfl hc11 (q_skip (dst := some 65) (t := 61) rfl rfl rfl hc11 (qS 66 rfl (ok_pick_tt · (.tmp rfl) hc11 (.bool _)) ?_))
  try dsimp only [w0,w1,w2,w3]
  exact J5_snd hD hH h
 ·refine qG 61 62 rfl (bfalse hc11) (oM · rfl) (qG 61 63 rfl (bfalse hc11) (oM · rfl) ?_)
  try dsimp only [w0,w1,w2,w3]
  obtain ⟨p34,hp34,h⟩ := bindo h
  refine qG 61 64 rfl (bfalse hc11) (oM · rfl) (q_call_g (t := 61) (dst := some 65) rfl rfl rfl (bfalse hc11) (.func _) (.cons (.tmp rfl) (.cons (.tmp rfl) (.cons (.tmp rfl) Evs.nil))) (HInv.static wish_Lists_Remove.at_ wish_Lists_Remove.body (wish_Lists_Remove.snd  hp34)) ?_)
  rintro _ _ ⟨rfl,rfl⟩
  refine qS 66 rfl (ok_pick_ff · (.tmp rfl) (bfalse hc11) (.tmp rfl)) ?_
  try dsimp only [w0,w1,w2,w3]
  exact J5_snd hD hH h
def J3 (D : Dp) (H : Hd) (k : Nat) (y0 : Int) (y1 : (List UInt8)) (y2 : (List UInt8)) (y7 : (Option HA)) (y53 : Bool) (S : HS) : Option ((Bool) × HS) :=
 (if y53 = true then
 J4 D H k y0 y1 y2 y7 true S else
 (Option.bind (wish_Lists_Add.f k y7 y0 y1 S) fun p35 =>
 J4 D H k y0 y1 y2 y7 (!decide (p35.1 = 1)) p35.2))
theorem J3_snd {D : Dp} {H : Hd} {k : Nat} (hD : DSound Tryd.prog base W0 D) (hH : HSound Tryd.prog base W0 β0 H)  {y0 : Int} {y1 : (List UInt8)} {y2 : (List UInt8)} {y7 : (Option HA)} {y53 : Bool} {S : HS} {p : (Bool) × HS} {Gd Ge Gf Gg Gi Gj Gk Gl Gm Gn Go Gp Gq Gr Gs Gt Gu Gv Gw Gx Gy Gz Ka Kb Kc Kd Ke Kf Kg Kh Ki Kj Kk Kl Km Kn Ko Kp Kq Kr Ks Kt Ku Kv Kw Kx Ky Kz Ma Mc Md Me Mf Mg Mh Mi Mj Mk Ml Mm Mn Mo Mp Mq Mr Ms Mt Mu Mv Mw Mx My Mz Na Nb Nc Nd Ne Nf Ng Nh Ni Nj Nk Nl Nm Nn No Np Nq Nr Ns Nt Nu Nv Nw Nx Ny Nz Qa Qb Qc Qd Qe Qf Qg Qh Qi Qj Qk Ql Qm Qn Qo Qp Qq Qr Qs Qt Qu Qv Qw Qx Qy Qz Ua Ub : HV} (h : J3 D H k y0 y1 y2 y7 y53 S = some p) : HRun Tryd.prog base W0 β0 5 none [.inRegion r26 [14,15,16,17,18,19,20,21,22,23,24,25,26,27,28,29,30,31,32,33,34,35,36,37,38,39,40,41,42,43,44],.code c27,.code c32] ⟨[(.int .i64 y0),(.str y1),(.str y2),Gd,Ge,Gf,Gg,(.ptr y7),Gi,Gj,Gk,Gl,Gm,Gn,Go,Gp,Gq,Gr,Gs,Gt,Gu,Gv,Gw,Gx,Gy,Gz,Ka,Kb,Kc,Kd,Ke,Kf,Kg,Kh,Ki,Kj,Kk,Kl,Km,Kn,Ko,Kp,Kq,Kr,Ks,Kt,Ku,Kv,Kw,Kx,Ky,Kz,Ma,(.bool y53),Mc,Md,Me,Mf,Mg,Mh,Mi,Mj,Mk,Ml,Mm,Mn,Mo,Mp,Mq,Mr,Ms,Mt,Mu,Mv,Mw,Mx,My,Mz,Na,Nb,Nc,Nd,Ne,Nf,Ng,Nh,Ni,Nj,Nk,Nl,Nm,Nn,No,Np,Nq,Nr,Ns,Nt,Nu,Nv,Nw,Nx,Ny,Nz,Qa,Qb,Qc,Qd,Qe,Qf,Qg,Qh,Qi,Qj,Qk,Ql,Qm,Qn,Qo,Qp,Qq,Qr,Qs,Qt,Qu,Qv,Qw,Qx,Qy,Qz,Ua,Ub],[]⟩ S (fun v S1 => v = (.bool p.1) ∧ S1 = p.2) := by
 unfold J3 at h
 refine qS 54 rfl (oM · rfl) ?_
 rcases ifc h with ⟨hc10,h⟩ | ⟨hc10,h⟩
 ·refine q_skip (dst := some 55) (t := 54) rfl rfl rfl hc10 ?_
  try dsimp only [w0,w1,w2,w3]
  refine q_skip (dst := some 56) (t := 54) rfl rfl rfl hc10 (q_skip (dst := some 57) (t := 54) rfl rfl rfl hc10 (q_skip (dst := some 58) (t := 54) rfl rfl rfl hc10 (q_skip (dst := some 59) (t := 54) rfl rfl rfl hc10 ?_)))
  try dsimp only [w0,w1,w2,w3]
  refine qS 60 rfl (ok_pick_tt · (.tmp rfl) hc10 (.bool _)) ?_
  try dsimp only [w0,w1,w2,w3]
  exact J4_snd hD hH h
 ·refine qG 54 55 rfl (bfalse hc10) (oM · rfl) ?_
  try dsimp only [w0,w1,w2,w3]
  obtain ⟨p35,hp35,h⟩ := bindo h
  refine qG 54 56 rfl (bfalse hc10) (oM · rfl) (qG 54 57 rfl (bfalse hc10) (oM · rfl) (q_call_g (t := 54) (dst := some 58) rfl rfl rfl (bfalse hc10) (.func _) (.cons (.tmp rfl) (.cons (.tmp rfl) (.cons (.tmp rfl) Evs.nil))) (HInv.static wish_Lists_Add.at_ wish_Lists_Add.body (wish_Lists_Add.snd  hp35)) ?_))
  rintro _ _ ⟨rfl,rfl⟩
  refine qG 54 59 rfl (bfalse hc10) (oC · rfl rfl) ?_
  try dsimp only [w0,w1,w2,w3]
  refine qS 60 rfl (ok_pick_ff · (.tmp rfl) (bfalse hc10) (.tmp rfl)) ?_
  try dsimp only [w0,w1,w2,w3]
  exact J4_snd hD hH h
def J2 (D : Dp) (H : Hd) (k : Nat) (y0 : Int) (y1 : (List UInt8)) (y2 : (List UInt8)) (y7 : (Option HA)) (y8 : Sl) (y10 : Sl) (y45 : Bool) (S : HS) : Option ((Bool) × HS) :=
 (if y45 = true then
 J3 D H k y0 y1 y2 y7 true S else
 J3 D H k y0 y1 y2 y7 (!decide ((w64 ((Sl.len y8 : Int) + (Sl.len y10 : Int))) = 0)) S)
theorem J2_snd {D : Dp} {H : Hd} {k : Nat} (hD : DSound Tryd.prog base W0 D) (hH : HSound Tryd.prog base W0 β0 H)  {y0 : Int} {y1 : (List UInt8)} {y2 : (List UInt8)} {y7 : (Option HA)} {y8 : Sl} {y10 : Sl} {y45 : Bool} {S : HS} {p : (Bool) × HS} {Gd Ge Gf Gg Gj Gl Gm Gn Go Gp Gq Gr Gs Gt Gu Gv Gw Gx Gy Gz Ka Kb Kc Kd Ke Kf Kg Kh Ki Kj Kk Kl Km Kn Ko Kp Kq Kr Ks Ku Kv Kw Kx Ky Kz Ma Mb Mc Md Me Mf Mg Mh Mi Mj Mk Ml Mm Mn Mo Mp Mq Mr Ms Mt Mu Mv Mw Mx My Mz Na Nb Nc Nd Ne Nf Ng Nh Ni Nj Nk Nl Nm Nn No Np Nq Nr Ns Nt Nu Nv Nw Nx Ny Nz Qa Qb Qc Qd Qe Qf Qg Qh Qi Qj Qk Ql Qm Qn Qo Qp Qq Qr Qs Qt Qu Qv Qw Qx Qy Qz Ua Ub : HV} (h : J2 D H k y0 y1 y2 y7 y8 y10 y45 S = some p) : HRun Tryd.prog base W0 β0 5 none [.inRegion r26 [6,7,8,9,10,11,12,13,14,15,16,17,18,19,20,21,22,23,24,25,26,27,28,29,30,31,32,33,34,35,36,37,38,39,40,41,42,43,44],.code c27,.code c32] ⟨[(.int .i64 y0),(.str y1),(.str y2),Gd,Ge,Gf,Gg,(.ptr y7),(Sl.hv y8),Gj,(Sl.hv y10),Gl,Gm,Gn,Go,Gp,Gq,Gr,Gs,Gt,Gu,Gv,Gw,Gx,Gy,Gz,Ka,Kb,Kc,Kd,Ke,Kf,Kg,Kh,Ki,Kj,Kk,Kl,Km,Kn,Ko,Kp,Kq,Kr,Ks,(.bool y45),Ku,Kv,Kw,Kx,Ky,Kz,Ma,Mb,Mc,Md,Me,Mf,Mg,Mh,Mi,Mj,Mk,Ml,Mm,Mn,Mo,Mp,Mq,Mr,Ms,Mt,Mu,Mv,Mw,Mx,My,Mz,Na,Nb,Nc,Nd,Ne,Nf,Ng,Nh,Ni,Nj,Nk,Nl,Nm,Nn,No,Np,Nq,Nr,Ns,Nt,Nu,Nv,Nw,Nx,Ny,Nz,Qa,Qb,Qc,Qd,Qe,Qf,Qg,Qh,Qi,Qj,Qk,Ql,Qm,Qn,Qo,Qp,Qq,Qr,Qs,Qt,Qu,Qv,Qw,Qx,Qy,Qz,Ua,Ub],[]⟩ S (fun v S1 => v = (.bool p.1) ∧ S1 = p.2) := by
 unfold J2 at h
 refine qS 46 rfl (oM · rfl) ?_
 rcases ifc h with ⟨hc9,h⟩ | ⟨hc9,h⟩
 ·refine q_skip (dst := some 47) (t := 46) rfl rfl rfl hc9 ?_
  try dsimp only [w0,w1,w2,w3]
  refine q_skip (dst := some 48) (t := 46) rfl rfl rfl hc9 (q_skip (dst := some 49) (t := 46) rfl rfl rfl hc9 (q_skip (dst := some 50) (t := 46) rfl rfl rfl hc9 (q_skip (dst := some 51) (t := 46) rfl rfl rfl hc9 ?_)))
  try dsimp only [w0,w1,w2,w3]
  refine q_skip (dst := some 52) (t := 46) rfl rfl rfl hc9 (qS 53 rfl (ok_pick_tt · (.tmp rfl) hc9 (.bool _)) ?_)
  try dsimp only [w0,w1,w2,w3]
  exact J3_snd hD hH h
 ·refine qG 46 47 rfl (bfalse hc9) (oM · rfl) ?_
  try dsimp only [w0,w1,w2,w3]
  refine qG 46 48 rfl (bfalse hc9) (ok_len_sl (q := Sl.a y8) (n := Sl.len y8) (z := Sl.cap y8) · rfl tu22 (.tmp rfl)) (qG 46 49 rfl (bfalse hc9) (oM · rfl) (qG 46 50 rfl (bfalse hc9) (ok_len_sl (q := Sl.a y10) (n := Sl.len y10) (z := Sl.cap y10) · rfl tu41 (.tmp rfl)) (qG 46 51 rfl (bfalse hc9) (oB · rfl rfl rfl) ?_)))
  try dsimp only [w0,w1,w2,w3]
  refine qG 46 52 rfl (bfalse hc9) (oC · rfl rfl) (qS 53 rfl (ok_pick_ff · (.tmp rfl) (bfalse hc9) (.tmp rfl)) ?_)
  try dsimp only [w0,w1,w2,w3]
  exact J3_snd hD hH h
def J1 (D : Dp) (H : Hd) (k : Nat) (y0 : Int) (y1 : (List UInt8)) (y2 : (List UInt8)) (y27 : Bool) (S : HS) : Option ((Bool) × HS) :=
 (if y27 = true then
 some (true,S) else
 (Option.bind (rollcalllaw21_names.f D H none y0 S) fun p6 =>
 (Option.bind (rollcalllaw21_clients.f D H k none y1 p6.2) fun p7 =>
 (if (!p6.1.2) = true then
 J2 D H k y0 y1 y2 none p6.1.1 p7.1.1 true p7.2 else
 J2 D H k y0 y1 y2 none p6.1.1 p7.1.1 (!p7.1.2) p7.2))))
theorem J1_snd {D : Dp} {H : Hd} {k : Nat} (hD : DSound Tryd.prog base W0 D) (hH : HSound Tryd.prog base W0 β0 H)  {y0 : Int} {y1 : (List UInt8)} {y2 : (List UInt8)} {y27 : Bool} {S : HS} {p : (Bool) × HS} {Gd Ge Gf Gg Gh Gi Gj Gk Gl Gm Gn Go Gp Gq Gr Gs Gt Gu Gv Gw Gx Gy Gz Ka Kc Kd Ke Kf Kg Kh Ki Kj Kk Kl Km Kn Ko Kp Kq Kr Ks Kt Ku Kv Kw Kx Ky Kz Ma Mb Mc Md Me Mf Mg Mh Mi Mj Mk Ml Mm Mn Mo Mp Mq Mr Ms Mt Mu Mv Mw Mx My Mz Na Nb Nc Nd Ne Nf Ng Nh Ni Nj Nk Nl Nm Nn No Np Nq Nr Ns Nt Nu Nv Nw Nx Ny Nz Qa Qb Qc Qd Qe Qf Qg Qh Qi Qj Qk Ql Qm Qn Qo Qp Qq Qr Qs Qt Qu Qv Qw Qx Qy Qz Ua Ub : HV} (h : J1 D H k y0 y1 y2 y27 S = some p) : HRun Tryd.prog base W0 β0 5 none [.code c13,.code c18] ⟨[(.int .i64 y0),(.str y1),(.str y2),Gd,Ge,Gf,Gg,Gh,Gi,Gj,Gk,Gl,Gm,Gn,Go,Gp,Gq,Gr,Gs,Gt,Gu,Gv,Gw,Gx,Gy,Gz,Ka,(.bool y27),Kc,Kd,Ke,Kf,Kg,Kh,Ki,Kj,Kk,Kl,Km,Kn,Ko,Kp,Kq,Kr,Ks,Kt,Ku,Kv,Kw,Kx,Ky,Kz,Ma,Mb,Mc,Md,Me,Mf,Mg,Mh,Mi,Mj,Mk,Ml,Mm,Mn,Mo,Mp,Mq,Mr,Ms,Mt,Mu,Mv,Mw,Mx,My,Mz,Na,Nb,Nc,Nd,Ne,Nf,Ng,Nh,Ni,Nj,Nk,Nl,Nm,Nn,No,Np,Nq,Nr,Ns,Nt,Nu,Nv,Nw,Nx,Ny,Nz,Qa,Qb,Qc,Qd,Qe,Qf,Qg,Qh,Qi,Qj,Qk,Ql,Qm,Qn,Qo,Qp,Qq,Qr,Qs,Qt,Qu,Qv,Qw,Qx,Qy,Qz,Ua,Ub],[]⟩ S (fun v S1 => v = (.bool p.1) ∧ S1 = p.2) := by
 unfold J1 at h
 rcases ifc h with ⟨hc5,h⟩ | ⟨hc5,h⟩
 ·refine q_cond_t rfl (.tmp rfl) hc5 (qQ rfl (qR rfl rfl (qS 6 rfl (ok_assign · (.bool _)) (rE ?_))))
  try dsimp only [w0,w1,w2,w3]
  cases h
  exact q_ret rfl at_.at_ rfl (res1 rfl rfl) ⟨rfl,rfl⟩
 ·refine q_cond_f rfl (.tmp rfl) (bfalse hc5) (q_skipc rfl (qQ rfl (qR rfl rfl (qS 7 rfl (ok_assign · (.const fun _ => .ptrNil)) (rE ?_)))))
  try dsimp only [w0,w1,w2,w3]
  obtain ⟨p6,hp6,h⟩ := bindo h
  refine qQ rfl (qR rfl rfl (qS 29 rfl (oM · rfl) (qS 30 rfl (oM · rfl) (q_call (dst := some 31) rfl (.func _) (.cons (.tmp rfl) (.cons (.tmp rfl) Evs.nil)) (HInv.static rollcalllaw21_names.at_ rollcalllaw21_names.body (rollcalllaw21_names.snd hD hH hp6)) ?_))))
  rintro _ _ ⟨rfl,rfl⟩
  refine qS 28 rfl (oM · rfl) ?_
  try dsimp only [w0,w1,w2,w3]
  refine qS 32 rfl (ok_extract · (.tmp rfl) rfl) (qS 33 rfl (ok_extract · (.tmp rfl) rfl) (qS 8 rfl (oA · rfl) (qS 9 rfl (oA · rfl) (rE ?_))))
  try dsimp only [w0,w1,w2,w3]
  obtain ⟨p7,hp7,h⟩ := bindo h
  refine qQ rfl (qR rfl rfl (qS 35 rfl (oM · rfl) (qS 36 rfl (oM · rfl) (q_call (dst := some 37) rfl (.func _) (.cons (.tmp rfl) (.cons (.tmp rfl) Evs.nil)) (HInv.static rollcalllaw21_clients.at_ rollcalllaw21_clients.body (rollcalllaw21_clients.snd hD hH hp7)) ?_))))
  rintro _ _ ⟨rfl,rfl⟩
  refine qS 34 rfl (oM · rfl) ?_
  try dsimp only [w0,w1,w2,w3]
  refine qS 38 rfl (ok_extract · (.tmp rfl) rfl) (qS 39 rfl (ok_extract · (.tmp rfl) rfl) (qS 10 rfl (oA · rfl) (qS 11 rfl (oA · rfl) (rE ?_))))
  try dsimp only [w0,w1,w2,w3]
  refine qQ rfl (qQ rfl (qR rfl rfl (qS 40 rfl (oM · rfl) (qS 41 rfl (ok_not · (.tmp rfl)) (qS 42 rfl (oM · rfl) ?_)))))
  rcases ifc h with ⟨hc8,h⟩ | ⟨hc8,h⟩
  ·refine q_skip (dst := some 43) (t := 42) rfl rfl rfl hc8 ?_
   try dsimp only [w0,w1,w2,w3]
   refine q_skip (dst := some 44) (t := 42) rfl rfl rfl hc8 (qS 45 rfl (ok_pick_tt · (.tmp rfl) hc8 (.bool _)) ?_)
   try dsimp only [w0,w1,w2,w3]
   exact J2_snd hD hH h
  ·refine qG 42 43 rfl (bfalse hc8) (oM · rfl) ?_
   try dsimp only [w0,w1,w2,w3]
   refine qG 42 44 rfl (bfalse hc8) (ok_not · (.tmp rfl)) (qS 45 rfl (ok_pick_ff · (.tmp rfl) (bfalse hc8) (.tmp rfl)) ?_)
   try dsimp only [w0,w1,w2,w3]
   exact J2_snd hD hH h
def J0 (D : Dp) (H : Hd) (k : Nat) (y0 : Int) (y1 : (List UInt8)) (y2 : (List UInt8)) (y22 : Bool) (S : HS) : Option ((Bool) × HS) :=
 (if y22 = true then
 J1 D H k y0 y1 y2 true S else
 (Option.bind (rollcallref01_Same.f k y1 y2 S) fun p36 =>
 J1 D H k y0 y1 y2 p36.1 p36.2))
theorem J0_snd {D : Dp} {H : Hd} {k : Nat} (hD : DSound Tryd.prog base W0 D) (hH : HSound Tryd.prog base W0 β0 H)  {y0 : Int} {y1 : (List UInt8)} {y2 : (List UInt8)} {y22 : Bool} {S : HS} {p : (Bool) × HS} {Gd Ge Gf Gg Gh Gi Gj Gk Gl Gm Gn Go Gp Gq Gr Gs Gt Gu Gv Gx Gy Gz Ka Kb Kc Kd Ke Kf Kg Kh Ki Kj Kk Kl Km Kn Ko Kp Kq Kr Ks Kt Ku Kv Kw Kx Ky Kz Ma Mb Mc Md Me Mf Mg Mh Mi Mj Mk Ml Mm Mn Mo Mp Mq Mr Ms Mt Mu Mv Mw Mx My Mz Na Nb Nc Nd Ne Nf Ng Nh Ni Nj Nk Nl Nm Nn No Np Nq Nr Ns Nt Nu Nv Nw Nx Ny Nz Qa Qb Qc Qd Qe Qf Qg Qh Qi Qj Qk Ql Qm Qn Qo Qp Qq Qr Qs Qt Qu Qv Qw Qx Qy Qz Ua Ub : HV} (h : J0 D H k y0 y1 y2 y22 S = some p) : HRun Tryd.prog base W0 β0 5 none [.inRegion r12 [8,9,10,11,12],.code c13,.code c18] ⟨[(.int .i64 y0),(.str y1),(.str y2),Gd,Ge,Gf,Gg,Gh,Gi,Gj,Gk,Gl,Gm,Gn,Go,Gp,Gq,Gr,Gs,Gt,Gu,Gv,(.bool y22),Gx,Gy,Gz,Ka,Kb,Kc,Kd,Ke,Kf,Kg,Kh,Ki,Kj,Kk,Kl,Km,Kn,Ko,Kp,Kq,Kr,Ks,Kt,Ku,Kv,Kw,Kx,Ky,Kz,Ma,Mb,Mc,Md,Me,Mf,Mg,Mh,Mi,Mj,Mk,Ml,Mm,Mn,Mo,Mp,Mq,Mr,Ms,Mt,Mu,Mv,Mw,Mx,My,Mz,Na,Nb,Nc,Nd,Ne,Nf,Ng,Nh,Ni,Nj,Nk,Nl,Nm,Nn,No,Np,Nq,Nr,Ns,Nt,Nu,Nv,Nw,Nx,Ny,Nz,Qa,Qb,Qc,Qd,Qe,Qf,Qg,Qh,Qi,Qj,Qk,Ql,Qm,Qn,Qo,Qp,Qq,Qr,Qs,Qt,Qu,Qv,Qw,Qx,Qy,Qz,Ua,Ub],[]⟩ S (fun v S1 => v = (.bool p.1) ∧ S1 = p.2) := by
 unfold J0 at h
 refine qS 23 rfl (oM · rfl) ?_
 rcases ifc h with ⟨hc4,h⟩ | ⟨hc4,h⟩
 ·refine q_skip (dst := some 24) (t := 23) rfl rfl rfl hc4 (q_skip (dst := some 25) (t := 23) rfl rfl rfl hc4 (q_skip (dst := some 26) (t := 23) rfl rfl rfl hc4 ?_))
  try dsimp only [w0,w1,w2,w3]
  refine qS 27 rfl (ok_pick_tt · (.tmp rfl) hc4 (.bool _)) (rE ?_)
  try dsimp only [w0,w1,w2,w3]
  try dsimp only [w0,w1,w2,w3]
  exact J1_snd hD hH h
 ·obtain ⟨p36,hp36,h⟩ := bindo h
  refine qG 23 24 rfl (bfalse hc4) (oM · rfl) (qG 23 25 rfl (bfalse hc4) (oM · rfl) (q_call_g (t := 23) (dst := some 26) rfl rfl rfl (bfalse hc4) (.func _) (.cons (.tmp rfl) (.cons (.tmp rfl) Evs.nil)) (HInv.static rollcallref01_Same.at_ rollcallref01_Same.body (rollcallref01_Same.snd  hp36)) ?_))
  rintro _ _ ⟨rfl,rfl⟩
  try dsimp only [w0,w1,w2,w3]
  refine qS 27 rfl (ok_pick_ff · (.tmp rfl) (bfalse hc4) (.tmp rfl)) (rE ?_)
  try dsimp only [w0,w1,w2,w3]
  try dsimp only [w0,w1,w2,w3]
  exact J1_snd hD hH h
def f (D : Dp) (H : Hd) (k : Nat) (x0 : Int) (x1 : (List UInt8)) (x2 : (List UInt8)) (S : HS) : Option ((Bool) × HS) :=
 (Option.bind (rollcalllaw21_awake.f k S) fun p1 =>
 (if (!p1.1) = true then
 some (false,p1.2) else
 (if (List.length x1 : Int) > 30 then
 J0 D H k x0 x1 x2 true p1.2 else
 J0 D H k x0 x1 x2 (decide ((List.length x2 : Int) > 30)) p1.2)))
theorem snd {D : Dp} {H : Hd} {k : Nat} {x0 : Int} {x1 : (List UInt8)} {x2 : (List UInt8)} {S : HS} (hD : DSound Tryd.prog base W0 D) (hH : HSound Tryd.prog base W0 β0 H)  {p : (Bool) × HS} (h : f D H k x0 x1 x2 S = some p) : HCall Tryd.prog base W0 β0 5 [(.int .i64 x0),(.str x1),(.str x2)] S (fun v S1 => v = (.bool p.1) ∧ S1 = p.2) := by
 unfold f at h
 refine HCall.of_run at_.at_ body ?_
 show HRun Tryd.prog base W0 β0 5 none [.code c0] ⟨[(.int .i64 x0),(.str x1),(.str x2),τ,τ,τ,τ,τ,τ,τ,τ,τ,τ,τ,τ,τ,τ,τ,τ,τ,τ,τ,τ,τ,τ,τ,τ,τ,τ,τ,τ,τ,τ,τ,τ,τ,τ,τ,τ,τ,τ,τ,τ,τ,τ,τ,τ,τ,τ,τ,τ,τ,τ,τ,τ,τ,τ,τ,τ,τ,τ,τ,τ,τ,τ,τ,τ,τ,τ,τ,τ,τ,τ,τ,τ,τ,τ,τ,τ,τ,τ,τ,τ,τ,τ,τ,τ,τ,τ,τ,τ,τ,τ,τ,τ,τ,τ,τ,τ,τ,τ,τ,τ,τ,τ,τ,τ,τ,τ,τ,τ,τ,τ,τ,τ,τ,τ,τ,τ,τ,τ,τ,τ,τ,τ,τ,τ,τ,τ,τ,τ,τ],[]⟩ S _
 refine qQ rfl (qR rfl rfl (qS 6 rfl (ok_assign · (.bool _)) (rE ?_)))
 try dsimp only [w0,w1,w2,w3]
 obtain ⟨p1,hp1,h⟩ := bindo h
 refine qQ rfl (qQ rfl (qR rfl rfl (q_call (dst := some 13) rfl (.func _) Evs.nil (HInv.static rollcalllaw21_awake.at_ rollcalllaw21_awake.body (rollcalllaw21_awake.snd  hp1)) ?_)))
 rintro _ _ ⟨rfl,rfl⟩
 refine qS 14 rfl (ok_not · (.tmp rfl)) (rE ?_)
 try dsimp only [w0,w1,w2,w3]
 rcases ifc h with ⟨hc2,h⟩ | ⟨hc2,h⟩
 ·refine q_cond_t rfl (.tmp rfl) hc2 (qQ rfl (qR rfl rfl (qS 6 rfl (ok_assign · (.bool _)) (rE ?_))))
  try dsimp only [w0,w1,w2,w3]
  cases h
  exact q_ret rfl at_.at_ rfl (res1 rfl rfl) ⟨rfl,rfl⟩
 ·refine q_cond_f rfl (.tmp rfl) (bfalse hc2) (q_skipc rfl (qQ rfl (qQ rfl (qR rfl rfl (qS 15 rfl (oM · rfl) (qS 16 rfl (ok_len_str · rfl tu9 (.tmp rfl)) (qS 17 rfl (oC · rfl rfl) (qS 18 rfl (oM · rfl) ?_))))))))
  try dsimp only [w0,w1,w2,w3]
  rcases ifc h with ⟨hc3,h⟩ | ⟨hc3,h⟩
  ·refine q_skip (dst := some 19) (t := 18) rfl rfl rfl (decide_eq_true hc3) (q_skip (dst := some 20) (t := 18) rfl rfl rfl (decide_eq_true hc3) (q_skip (dst := some 21) (t := 18) rfl rfl rfl (decide_eq_true hc3) (qS 22 rfl (ok_pick_tt · (.tmp rfl) (decide_eq_true hc3) (.bool _)) ?_)))
   try dsimp only [w0,w1,w2,w3]
   try dsimp only [w0,w1,w2,w3]
   exact J0_snd hD hH h
  ·refine qG 18 19 rfl (decide_eq_false hc3) (oM · rfl) (qG 18 20 rfl (decide_eq_false hc3) (ok_len_str · rfl tu9 (.tmp rfl)) (qG 18 21 rfl (decide_eq_false hc3) (oC · rfl rfl) (qS 22 rfl (ok_pick_ff · (.tmp rfl) (decide_eq_false hc3) (.tmp rfl)) ?_)))
   try dsimp only [w0,w1,w2,w3]
   try dsimp only [w0,w1,w2,w3]
   exact J0_snd hD hH h
end
end rollcalllaw21_WishNone
section
variable {base : Nat} {W0 : World} {β0 : Bt}
def call_102 (D : Dp) (H : Hd) (k : Nat) (vs : List HV) (S : HS) : Option (HV × HS) :=
 Option.bind (args2 vs) fun a =>
 Option.bind (dF a.1) fun p0 =>
 Option.bind (dP a.2) fun p1 =>
 Option.bind (slices_Values_int_int_1.f D H k p0 p1 S) fun q =>
 some (.tup [],q.2)
theorem call_102_snd {D : Dp} {H : Hd} {k : Nat} (hD : DSound Tryd.prog base W0 D) (hH : HSound Tryd.prog base W0 β0 H) {vs : List HV} {S : HS} {p : HV × HS} (h : call_102 D H k vs S = some p) : HCall Tryd.prog base W0 β0 102 vs S (fun v1 S1 => v1 = p.1 ∧ S1 = p.2) := by
 unfold call_102 at h
 obtain ⟨a,ha,h⟩ := bindo h
 obtain ⟨p0,hp0,h⟩ := bindo h
 obtain ⟨p1,hp1,h⟩ := bindo h
 obtain ⟨q,hq,h⟩ := bindo h
 rw [args2_out ha,dF_out hp0,dP_out hp1]
 cases h
 exact slices_Values_int_int_1.snd hD hH hq
def call_69 (D : Dp) (H : Hd) (k : Nat) (vs : List HV) (S : HS) : Option (HV × HS) :=
 Option.bind (args1 vs) fun a =>
 Option.bind (dF a) fun p0 =>
 Option.bind (pair_Rel_int_string_By_1.f p0) fun q =>
 some (.tup [],S)
theorem call_69_snd {D : Dp} {H : Hd} {k : Nat} (hD : DSound Tryd.prog base W0 D) (hH : HSound Tryd.prog base W0 β0 H) {vs : List HV} {S : HS} {p : HV × HS} (h : call_69 D H k vs S = some p) : HCall Tryd.prog base W0 β0 69 vs S (fun v1 S1 => v1 = p.1 ∧ S1 = p.2) := by
 unfold call_69 at h
 obtain ⟨a,ha,h⟩ := bindo h
 obtain ⟨p0,hp0,h⟩ := bindo h
 obtain ⟨q,hq,h⟩ := bindo h
 rw [args1_out ha,dF_out hp0]
 cases h
 exact pair_Rel_int_string_By_1.snd hq
def call_49 (D : Dp) (H : Hd) (k : Nat) (vs : List HV) (S : HS) : Option (HV × HS) :=
 Option.bind (args1 vs) fun a =>
 Option.bind (dF a) fun p0 =>
 Option.bind (wish_Lists_By_1.f p0) fun q =>
 some (.tup [],S)
theorem call_49_snd {D : Dp} {H : Hd} {k : Nat} (hD : DSound Tryd.prog base W0 D) (hH : HSound Tryd.prog base W0 β0 H) {vs : List HV} {S : HS} {p : HV × HS} (h : call_49 D H k vs S = some p) : HCall Tryd.prog base W0 β0 49 vs S (fun v1 S1 => v1 = p.1 ∧ S1 = p.2) := by
 unfold call_49 at h
 obtain ⟨a,ha,h⟩ := bindo h
 obtain ⟨p0,hp0,h⟩ := bindo h
 obtain ⟨q,hq,h⟩ := bindo h
 rw [args1_out ha,dF_out hp0]
 cases h
 exact wish_Lists_By_1.snd hq
def call_105 (D : Dp) (H : Hd) (k : Nat) (vs : List HV) (S : HS) : Option (HV × HS) :=
 Option.bind (args2 vs) fun a =>
 Option.bind (dF a.1) fun p0 =>
 Option.bind (dP a.2) fun p1 =>
 Option.bind (slices_Values_string_string_1.f D H k p0 p1 S) fun q =>
 some (.tup [],q.2)
theorem call_105_snd {D : Dp} {H : Hd} {k : Nat} (hD : DSound Tryd.prog base W0 D) (hH : HSound Tryd.prog base W0 β0 H) {vs : List HV} {S : HS} {p : HV × HS} (h : call_105 D H k vs S = some p) : HCall Tryd.prog base W0 β0 105 vs S (fun v1 S1 => v1 = p.1 ∧ S1 = p.2) := by
 unfold call_105 at h
 obtain ⟨a,ha,h⟩ := bindo h
 obtain ⟨p0,hp0,h⟩ := bindo h
 obtain ⟨p1,hp1,h⟩ := bindo h
 obtain ⟨q,hq,h⟩ := bindo h
 rw [args2_out ha,dF_out hp0,dP_out hp1]
 cases h
 exact slices_Values_string_string_1.snd hD hH hq
def call_72 (D : Dp) (H : Hd) (k : Nat) (vs : List HV) (S : HS) : Option (HV × HS) :=
 Option.bind (args1 vs) fun a =>
 Option.bind (dF a) fun p0 =>
 Option.bind (pair_Rel_int_string_Of_1.f p0) fun q =>
 some (.tup [],S)
theorem call_72_snd {D : Dp} {H : Hd} {k : Nat} (hD : DSound Tryd.prog base W0 D) (hH : HSound Tryd.prog base W0 β0 H) {vs : List HV} {S : HS} {p : HV × HS} (h : call_72 D H k vs S = some p) : HCall Tryd.prog base W0 β0 72 vs S (fun v1 S1 => v1 = p.1 ∧ S1 = p.2) := by
 unfold call_72 at h
 obtain ⟨a,ha,h⟩ := bindo h
 obtain ⟨p0,hp0,h⟩ := bindo h
 obtain ⟨q,hq,h⟩ := bindo h
 rw [args1_out ha,dF_out hp0]
 cases h
 exact pair_Rel_int_string_Of_1.snd hq
def call_53 (D : Dp) (H : Hd) (k : Nat) (vs : List HV) (S : HS) : Option (HV × HS) :=
 Option.bind (args2 vs) fun a =>
 Option.bind (dF a.1) fun p0 =>
 Option.bind (dP a.2) fun p1 =>
 Option.bind (wish_Lists_Of_1.f D H k p0 p1 S) fun q =>
 some (.tup [],q.2)
theorem call_53_snd {D : Dp} {H : Hd} {k : Nat} (hD : DSound Tryd.prog base W0 D) (hH : HSound Tryd.prog base W0 β0 H) {vs : List HV} {S : HS} {p : HV × HS} (h : call_53 D H k vs S = some p) : HCall Tryd.prog base W0 β0 53 vs S (fun v1 S1 => v1 = p.1 ∧ S1 = p.2) := by
 unfold call_53 at h
 obtain ⟨a,ha,h⟩ := bindo h
 obtain ⟨p0,hp0,h⟩ := bindo h
 obtain ⟨p1,hp1,h⟩ := bindo h
 obtain ⟨q,hq,h⟩ := bindo h
 rw [args2_out ha,dF_out hp0,dP_out hp1]
 cases h
 exact wish_Lists_Of_1.snd hD hH hq
def disp (k : Nat) : Nat → Dp
 | 0 => fun _ _ _ _ => none
 | n + 1 => fun H fv vs S => match fv with
  | .fn (.yield l) [] [] => Option.bind (H l) fun r => r vs S
  | .fn (.func f) xs ys => if f = 102 then call_102 (disp k n) H k (xs ++ vs ++ ys) S else if f = 69 then call_69 (disp k n) H k (xs ++ vs ++ ys) S else if f = 49 then call_49 (disp k n) H k (xs ++ vs ++ ys) S else if f = 105 then call_105 (disp k n) H k (xs ++ vs ++ ys) S else if f = 72 then call_72 (disp k n) H k (xs ++ vs ++ ys) S else if f = 53 then call_53 (disp k n) H k (xs ++ vs ++ ys) S else none
  | _ => none
theorem disp_func {k n : Nat} {H : Hd} {f : Nat} {xs ys vs : List HV} {S : HS} : disp k (n + 1) H (.fn (.func f) xs ys) vs S = (if f = 102 then call_102 (disp k n) H k (xs ++ vs ++ ys) S else if f = 69 then call_69 (disp k n) H k (xs ++ vs ++ ys) S else if f = 49 then call_49 (disp k n) H k (xs ++ vs ++ ys) S else if f = 105 then call_105 (disp k n) H k (xs ++ vs ++ ys) S else if f = 72 then call_72 (disp k n) H k (xs ++ vs ++ ys) S else if f = 53 then call_53 (disp k n) H k (xs ++ vs ++ ys) S else none) := rfl
theorem disp_yield {k n : Nat} {H : Hd} {l : Nat} {vs : List HV} {S : HS} : disp k (n + 1) H (.fn (.yield l) [] []) vs S = Option.bind (H l) fun r => r vs S := rfl
theorem disp_snd {k : Nat} : ∀ n,DSound Tryd.prog base W0 (disp k n) := by
 intro n
 induction n with
 | zero => intro _ _ _ _ _ _ _ _ h; cases h
 | succ n ih =>
  intro β0 H hH fv vs S v S' h
  unfold disp at h
  split at h
  ·obtain ⟨r,hr,h⟩ := bindo h
   exact hH _ _ hr _ _ _ _ h
  ·skip
   rcases ifc h with ⟨hf,h⟩ | ⟨hf,h⟩
   ·subst hf; exact HInv.func slices_Values_int_int_1.at_ slices_Values_int_int_1.body (call_102_snd (k := k) ih hH h)
   rcases ifc h with ⟨hf,h⟩ | ⟨hf,h⟩
   ·subst hf; exact HInv.func pair_Rel_int_string_By_1.at_ pair_Rel_int_string_By_1.body (call_69_snd (k := k) ih hH h)
   rcases ifc h with ⟨hf,h⟩ | ⟨hf,h⟩
   ·subst hf; exact HInv.func wish_Lists_By_1.at_ wish_Lists_By_1.body (call_49_snd (k := k) ih hH h)
   rcases ifc h with ⟨hf,h⟩ | ⟨hf,h⟩
   ·subst hf; exact HInv.func slices_Values_string_string_1.at_ slices_Values_string_string_1.body (call_105_snd (k := k) ih hH h)
   rcases ifc h with ⟨hf,h⟩ | ⟨hf,h⟩
   ·subst hf; exact HInv.func pair_Rel_int_string_Of_1.at_ pair_Rel_int_string_Of_1.body (call_72_snd (k := k) ih hH h)
   rcases ifc h with ⟨hf,h⟩ | ⟨hf,h⟩
   ·subst hf; exact HInv.func wish_Lists_Of_1.at_ wish_Lists_Of_1.body (call_53_snd (k := k) ih hH h)
   cases h
  ·cases h
end
end Go.Proofs.YtcphapfclncggaaDoor.X
namespace Go.Proofs.YtcphapfclncggaaDoor.X
open Go.Proofs.YtcphapfclncggaaDoor.HL
set_option linter.unusedVariables false
theorem vec_keep {n z : Nat} {T T' : HS} {s : Sl} {rows : List (List HV)} (h : Vec n T z s rows) (he : ∀ q,s.a = some q → T'.heap q.1 = T.heap q.1) (hn : T.next ≤ T'.next) : Vec n T' z s rows := by
 cases h with
 | nil => exact .nil
 | open_ g1 g2 g3 => exact .open_ ((he _ rfl).trans g1) g2 (Nat.lt_of_lt_of_le g3 hn)
 | capped g1 g2 g3 g4 g5 g6 => exact .capped ((he _ rfl).trans g1) g2 (Nat.lt_of_lt_of_le g3 hn) g4 g5 g6
theorem rows_keep {S S' : HS} {z : Nat} {s : Sl} {rows : List (List HV)} (h : S.rows s z = some rows) (hk : ∀ q,s.a = some q → S'.heap q.1 = S.heap q.1) : S'.rows s z = some rows := by
 unfold HS.rows at h ⊢
 cases ha : s.a with
 | none => rw [ha] at h; exact h
 | some q =>
  obtain ⟨id,off⟩ := q
  rw [ha] at h
  simp only at h ⊢
  rw [hk _ ha]
  exact h
def OV (S : HS) (z : Nat) (s : Sl) (rows : List (List HV)) : Prop := (s.a = none ∧ s.len = 0 ∧ rows = []) ∨ ∃ id,s = ⟨some (id,0),rows.length,none⟩ ∧ S.heap id = .cells z rows true ∧ id < S.next
theorem OV.keep {S S' : HS} {z : Nat} {s : Sl} {rows : List (List HV)} (h : OV S z s rows) (he : ∀ q,s.a = some q → S'.heap q.1 = S.heap q.1) (hn : S.next ≤ S'.next) : OV S' z s rows := by
 rcases h with h | ⟨id,rfl,h2,h3⟩
 ·exact .inl h
 ·exact .inr ⟨id,rfl,(he _ rfl).trans h2,Nat.lt_of_lt_of_le h3 hn⟩
theorem OV.rows {S : HS} {z : Nat} {s : Sl} {rows : List (List HV)} (h : OV S z s rows) : S.rows s z = some rows := by
 rcases h with ⟨h1,h2,rfl⟩ | ⟨id,rfl,h2,h3⟩
 ·unfold HS.rows; rw [h1]; simp [h2]
 ·simp [HS.rows,h2]
theorem OV.len {S : HS} {z : Nat} {s : Sl} {rows : List (List HV)} (h : OV S z s rows) : s.len = rows.length := (rows_len h.rows).symm
theorem OV.lt {S : HS} {z : Nat} {s : Sl} {rows : List (List HV)} (h : OV S z s rows) {q : Nat × Nat} (hq : s.a = some q) : q.1 < S.next := by
 rcases h with ⟨h1,_,_⟩ | ⟨id,rfl,h2,h3⟩
 ·rw [h1] at hq; cases hq
 ·cases hq; exact h3
theorem ins_ov {S : HS} {z : Nat} {s : Sl} {rows : List (List HV)} {row : List HV} (h : OV S z s rows) {i : Nat} (hi : i ≤ rows.length) (hb : rows.length + 1 ≤ 2147483648) :
  ∃ s' S',(S.lit [row] z).2.ins s (i : Int) (S.lit [row] z).1 z = some (s',S') ∧ OV S' z s' (rows.take i ++ [row] ++ rows.drop i) ∧ S.next ≤ S'.next ∧ (∀ id,id < S.next → (∀ q,s.a = some q → q.1 ≠ id) → S'.heap id = S.heap id) ∧ ∀ q,s'.a = some q → S.next ≤ q.1 := by
 have hr : (S.lit [row] z).2.rows (S.lit [row] z).1 z = some [row] := by simp [HS.lit,HS.rows,new_here]
 unfold HS.ins
 rw [hr,Option.bind_some]
 rcases h with ⟨h1,h2,rfl⟩ | ⟨id,rfl,h2,h3⟩
 ·obtain rfl : i = 0 := by simpa using hi
  rw [if_neg (by rw [h2]; simp),h1]
  simp only
  rw [if_pos ⟨h2,rfl⟩]
  refine ⟨_,_,rfl,.inr ⟨_,rfl,new_here _ _,Nat.lt_succ_self _⟩,?_,fun id hid _ => ?_,fun q hq => ?_⟩
  ·simp only [HS.lit,new_next]; omega
  ·rw [new_old _ (by simp only [HS.lit,new_next]; omega)]; exact new_old _ hid
  ·cases hq; simp only [HS.lit,new_next]; omega
 ·rw [if_neg (by simp; omega)]
  have hid : (S.lit [row] z).2.heap id = .cells z rows true := (new_old _ h3).trans h2
  simp only [hid,show (S.lit [row] z).1.a = some (S.next,0) from rfl]
  have hc : z = z ∧ (0 : Nat) = 0 ∧ (none : Option Nat) = none ∧ rows.length = rows.length ∧ (0 : Int) ≤ (i : Int) ∧ (i : Int) ≤ (rows.length : Int) ∧ S.next ≠ id ∧ S.next < (S.lit [row] z).2.next ∧ (S.lit [row] z).2.mrk S.next ≠ 1 ∧ ((S.lit [row] z).2.heap S.next).own = true := by
   refine ⟨rfl,rfl,rfl,rfl,by omega,by omega,by omega,Nat.lt_succ_self _,?_,?_⟩
   ·simp [HS.lit,HS.new,HS.newM]
   ·show ((S.new _).heap S.next).own = true
    rw [new_here]; rfl
  rw [if_pos (by simpa using hc)]
  have hn : (S.lit [row] z).2.next = S.next + 1 := rfl
  refine ⟨_,_,rfl,.inr ⟨S.next + 2,?_,?_,?_⟩,?_,fun x hx hq => ?_,fun q hq => ?_⟩
  ·simp only [hn]; simp; omega
  ·simp [HS.swap,hn]
  ·show S.next + 2 < (S.lit [row] z).2.next + 2; rw [hn]; omega
  ·show S.next ≤ (S.lit [row] z).2.next + 2; rw [hn]; omega
  ·have hxi : x ≠ id := fun e => hq _ rfl e.symm
   show (if x = (S.lit [row] z).2.next + 1 then _ else if x = (S.lit [row] z).2.next ∨ x = id then HObj.dead else (S.lit [row] z).2.heap x) = S.heap x
   rw [if_neg (by omega),if_neg (by omega)]
   exact new_old _ hx
  ·cases hq; simp only [hn]; omega
theorem del_ov {S : HS} {z : Nat} {s : Sl} {rows : List (List HV)} (h : OV S z s rows) {i : Nat} (hi : i < rows.length) (hb : rows.length ≤ 2147483648) :
  ∃ s' S',S.del s (i : Int) ((i + 1 : Nat) : Int) z = some (s',S') ∧ OV S' z s' (rows.eraseIdx i) ∧ S.next ≤ S'.next ∧ (∀ id,id < S.next → (∀ q,s.a = some q → q.1 ≠ id) → S'.heap id = S.heap id) ∧ ∀ q,s'.a = some q → S.next ≤ q.1 := by
 rcases h with ⟨h1,h2,rfl⟩ | ⟨id,rfl,h2,h3⟩
 ·simp at hi
 ·unfold HS.del
  simp only [h2]
  rw [if_pos (by refine ⟨trivial,trivial,trivial,trivial,?_,?_,?_,?_⟩ <;> omega)]
  refine ⟨_,_,rfl,.inr ⟨S.next,?_,?_,Nat.lt_succ_self _⟩,Nat.le_succ _,fun x hx hq => ?_,fun q hq => by cases hq; exact Nat.le_refl _⟩
  ·simp only [Int.toNat_natCast,List.length_eraseIdx,if_pos hi]
   congr 1; omega
  ·show (if S.next = S.next then HObj.cells z (rows.take (i : Int).toNat ++ rows.drop ((i + 1 : Nat) : Int).toNat) true else _) = _
   rw [if_pos rfl,Int.toNat_natCast,Int.toNat_natCast,List.eraseIdx_eq_take_drop_succ]
  ·show (if x = S.next then _ else if x = id then HObj.dead else S.heap x) = S.heap x
   rw [if_neg (by omega),if_neg (fun e => hq _ rfl e.symm)]
theorem rows_cut {S : HS} {s : Sl} {z : Nat} {rows : List (List HV)} (h : S.rows s z = some rows) {m : Nat} (hm : m ≤ rows.length) : ∃ sc,S.cut s (m : Int) (rows.length : Int) z = some sc ∧ S.rows sc z = some (rows.drop m) := by
 have hl := rows_len h
 obtain ⟨sa,sl,sc⟩ := s
 have hl2 : rows.length = sl := hl
 subst hl2
 cases sa with
 | none =>
  simp only [HS.rows] at h
  split at h
  ·rename_i e
   cases h
   obtain rfl : m = 0 := by simpa using hm
   exact ⟨⟨none,0,sc⟩,by simp [HS.cut],by simp [HS.rows]⟩
  ·cases h
 | some p =>
  obtain ⟨id,off⟩ := p
  simp only [HS.rows] at h
  split at h
  ·rename_i z' rws own hh
   split at h
   ·rename_i hc
    obtain ⟨rfl,hc⟩ := hc
    simp only [Option.some.injEq] at h
    refine ⟨_,cut_len hh hm (Nat.le_refl _),?_⟩
    rw [rows_at hh (by omega)]
    congr 1
    rw [← List.drop_drop,← List.drop_take,h]
   ·cases h
  ·cases h
/-! ### the middle -/
theorem mid_eq {i j : Nat} (h : i + j ≤ 1000000) : w64 (Int.fdiv (IntKind.wrap .u64 (w64 ((i : Int) + (j : Int)))) (2 ^ (min (Int.toNat 1) (IntKind.bits .u64)))) = (((i + j) / 2 : Nat) : Int) := by
 have e1 : w64 ((i : Int) + (j : Int)) = ((i + j : Nat) : Int) := by rw [w64_id (by omega) (by omega)]; omega
 have e2 : IntKind.wrap .u64 ((i + j : Nat) : Int) = ((i + j : Nat) : Int) := by
  simp only [IntKind.wrap,IntKind.signed,IntKind.bits]
  simp
  omega
 have e3 : (2 : Int) ^ (min (Int.toNat 1) (IntKind.bits .u64)) = 2 := by decide
 rw [e1,e2,e3]
 have e4 : Int.fdiv ((i + j : Nat) : Int) 2 = (((i + j) / 2 : Nat) : Int) := by
  rw [Int.fdiv_eq_ediv_of_nonneg _ (by omega)]; omega
 rw [e4,w64_id (by omega) (by omega)]
theorem OV.none {S : HS} {z : Nat} {s : Sl} {rows : List (List HV)} (h : OV S z s rows) (ha : s.a = none) : rows = [] := by
 rcases h with ⟨_,_,h⟩ | ⟨id,rfl,_,_⟩
 ·exact h
 ·cases ha
theorem OV.rd {S : HS} {z : Nat} {s : Sl} {rows : List (List HV)} (h : OV S z s rows) : Rd S.next S z s rows := ⟨h.rows,fun q hq => h.lt hq⟩
theorem get_at {S : HS} {s : Sl} {rows : List (List HV)} (h : S.rows s 1 = some rows) {i : Nat} (hi : i < rows.length) {v : HV} (hv : rows[i] = [v]) : ∃ ad,S.idx s (i : Int) 1 = some ad ∧ S.get ad = some v := by
 obtain ⟨ad,h1,h2,h3⟩ := rows_idx h (i := i) hi
 refine ⟨ad,h1,?_⟩
 have := row_get (j := 0) (v := v) h3 h2 (by simp [hv])
 obtain ⟨a1,a2,a3⟩ := ad
 simp only at h2
 subst h2
 exact this
theorem row_ldM {S : HS} {ad : HA} {r : List HV} {m : Option Nat} {j : Nat} (h : S.row ad.id ad.i = some r) (hj : ad.j = 0) (hv : r[j]? = some (.map m)) : S.ldM (HA.fld ad j) = some m := by
 rw [HS.ldM,row_get h hj hv]; rfl
theorem dI_at (n : Int) : dI .i64 (HV.int .i64 n) = some n := by simp [dI]
theorem dS_at (s : List UInt8) : dS (HV.str s) = some s := rfl
/-! ### an object with one slice -/
def Own (p : Nat) (s : Sl) (id : Nat) : Prop := id = p ∨ ∃ q,s.a = some q ∧ q.1 = id
structure Only (q : Nat) (s s' : Sl) (S S' : HS) : Prop where
 le : S.next ≤ S'.next
 eq : ∀ id,id < S.next → ¬ Own q s id → S'.heap id = S.heap id
 own : ∀ id,Own q s' id → Own q s id ∨ S.next ≤ id
theorem Only.refl (q : Nat) (s : Sl) (S : HS) : Only q s s S S := ⟨Nat.le_refl _,fun _ _ _ => rfl,fun _ h => .inl h⟩
theorem Only.trans {q : Nat} {s s' s'' : Sl} {S S' S'' : HS} (h : Only q s s' S S') (k : Only q s' s'' S' S'') : Only q s s'' S S'' :=
 ⟨Nat.le_trans h.le k.le,fun id h1 h2 => (k.eq id (Nat.lt_of_lt_of_le h1 h.le) (fun ho => (h.own id ho).elim h2 (fun h3 => by omega))).trans (h.eq id h1 h2),fun id ho => by
  rcases k.own id ho with h1 | h1
  ·exact h.own id h1
  ·have := h.le; exact .inr (by omega)⟩
theorem Only.of_fr {q : Nat} {s : Sl} {S S' : HS} (h : Fr S.next S S') : Only q s s S S' := ⟨h.le,fun id h1 _ => h.eq id h1,fun _ ho => .inl ho⟩
/-! ### what is told, to one who has his own -/
/-- The handler's part: what it holds, what it does. -/
structure Tld (H : Hd) (l : Nat) (vs : List (List HV)) (I : Nat → (Nat → Prop) → HS → Prop) (Stop : (Nat → Prop) → HS → Prop) : Prop where
 keep : ∀ i O S S',I i O S → (∀ id,O id → S'.heap id = S.heap id) → S.next ≤ S'.next → I i O S'
 keepS : ∀ O S S',Stop O S → (∀ id,O id → S'.heap id = S.heap id) → S.next ≤ S'.next → Stop O S'
 lt : ∀ i O S,I i O S → ∀ id,O id → id < S.next
 ltS : ∀ O S,Stop O S → ∀ id,O id → id < S.next
 step : ∀ i (hi : i < vs.length) O S,I i O S → ∃ b S' O',Option.bind (H l) (fun r => r vs[i] S) = some (.bool b,S') ∧ S.next ≤ S'.next ∧ (∀ id,id < S.next → ¬ O id → S'.heap id = S.heap id) ∧ (∀ id,O' id → O id ∨ S.next ≤ id) ∧ (b = true → I (i + 1) O' S') ∧ (b = false → Stop O' S')
/-- A function tells a list, from a heap on; it reads what K says. -/
def Tells (D : Dp) (fv : HV) (vs : List (List HV)) (K : Nat → Prop) (B : HS) : Prop :=
 ∀ (H : Hd) (l : Nat) (I : Nat → (Nat → Prop) → HS → Prop) (Stop : (Nat → Prop) → HS → Prop),Tld H l vs I Stop → ∀ (O : Nat → Prop) (S : HS),I 0 O S → (∀ id,K id → S.heap id = B.heap id ∧ ¬ O id ∧ id < S.next) →
  ∃ S' O',D H fv [.fn (.yield l) [] []] S = some (.tup [],S') ∧ S.next ≤ S'.next ∧ (∀ id,id < S.next → ¬ O id → S'.heap id = S.heap id) ∧ (∀ id,O' id → O id ∨ S.next ≤ id) ∧ (I vs.length O' S' ∨ Stop O' S')
/-- A change: off O nothing that stood is another; what is held then was held, or is new. -/
structure Chg (O O' : Nat → Prop) (S S' : HS) : Prop where
 le : S.next ≤ S'.next
 eq : ∀ id,id < S.next → ¬ O id → S'.heap id = S.heap id
 own : ∀ id,O' id → O id ∨ S.next ≤ id
theorem Chg.refl (O : Nat → Prop) (S : HS) : Chg O O S S := ⟨Nat.le_refl _,fun _ _ _ => rfl,fun _ h => .inl h⟩
theorem Chg.trans {O O' O'' : Nat → Prop} {S S' S'' : HS} (h : Chg O O' S S') (k : Chg O' O'' S' S'') : Chg O O'' S S'' :=
 ⟨Nat.le_trans h.le k.le,fun id h1 h2 => (k.eq id (Nat.lt_of_lt_of_le h1 h.le) (fun ho => (h.own id ho).elim h2 (fun h3 => by omega))).trans (h.eq id h1 h2),fun id ho => by
  rcases k.own id ho with h1 | h1
  ·exact h.own id h1
  ·have := h.le; exact .inr (by omega)⟩
theorem Chg.of_fr {O : Nat → Prop} {S S' : HS} (h : Fr S.next S S') : Chg O O S S' := ⟨h.le,fun id h1 _ => h.eq id h1,fun _ ho => .inl ho⟩
theorem range_tells {D : Dp} {H : Hd} {fv : HV} {vs : List (List HV)} {K : Nat → Prop} {S : HS} {hd : List HV → HS → Option (HV × HS)} {bd : Nat → HS → Option (HV × HS)}
  (hT : Tells D fv vs K S) (hK : ∀ id,K id → id < S.next) (I : Nat → (Nat → Prop) → HS → Prop) (Q : Code → (Nat → Prop) → HS → Prop)
  (keepI : ∀ i O T T',I i O T → (∀ id,O id → T'.heap id = T.heap id) → T.next ≤ T'.next → I i O T')
  (keepQ : ∀ c O T T',Q c O T → (∀ id,O id → T'.heap id = T.heap id) → T.next ≤ T'.next → Q c O T')
  (O : Nat → Prop) (hO : ∀ id,O id → id < S.next) (hI : I 0 O S) (hOK : ∀ id,O id → ¬ K id)
  (hdef : ∀ i (hi : i < vs.length) T,T.heap (S.next + 1) = .loop .ready none → hd vs[i] T = bd i (T.put (S.next + 1) (.loop .busy none)))
  (step : ∀ i (hi : i < vs.length) O1 U,I i O1 U → S.next + 2 ≤ U.next → U.heap (S.next + 1) = .loop .busy none → ¬ O1 (S.next + 1) → (∀ id,O1 id → id < U.next) →
   ∃ U' O2 j,bd i U = U'.endr (S.next + 1) j ∧ Chg O1 O2 U U' ∧ (∀ id,O2 id → id < U'.next) ∧ (j = none → I (i + 1) O2 U') ∧ ∀ c,j = some c → Q c O2 U') :
  ∃ T st S' O',D (Hd.set H (S.next + 1) hd) fv [.fn (.yield (S.next + 1)) [] []] ((S.new .defer).new (.loop .ready none)) = some (.tup [],T) ∧ T.finish (S.next + 1) = some (st,S') ∧ S'.heap S.next = .defer ∧ S.next + 2 ≤ S'.next ∧
   Chg O O' S S' ∧ (∀ id,O' id → id ≠ S.next ∧ id ≠ S.next + 1 ∧ id < S'.next) ∧ (st = none → I vs.length O' S') ∧ (∀ c,st = some c → Q c O' S') := by
 have f2 : Fr S.next S ((S.new .defer).new (.loop .ready none)) := (Fr.new (Nat.le_refl _) _).trans (Fr.new (by rw [new_next]; omega) _)
 have n2 : ((S.new .defer).new (.loop .ready none)).next = S.next + 2 := rfl
 have d2 : ((S.new .defer).new (.loop .ready none)).heap S.next = .defer := by rw [new_old _ (by rw [new_next]; omega)]; exact new_here _ _
 have l2 : ((S.new .defer).new (.loop .ready none)).heap (S.next + 1) = .loop .ready none := new_here (S.new .defer) _
 generalize (S.new .defer).new (.loop .ready none) = S0 at f2 n2 d2 l2 ⊢
 let J : Nat → (Nat → Prop) → HS → Prop := fun i OO T => ∃ O1,(∀ id,OO id ↔ (O1 id ∨ id = S.next ∨ id = S.next + 1)) ∧ (∀ id,O1 id → id ≠ S.next ∧ id ≠ S.next + 1 ∧ id < T.next ∧ (O id ∨ S.next + 2 ≤ id)) ∧ I i O1 T ∧ T.heap S.next = .defer ∧ T.heap (S.next + 1) = .loop .ready none ∧ S.next + 2 ≤ T.next
 let St : (Nat → Prop) → HS → Prop := fun OO T => ∃ O1 c,(∀ id,OO id ↔ (O1 id ∨ id = S.next ∨ id = S.next + 1)) ∧ (∀ id,O1 id → id ≠ S.next ∧ id ≠ S.next + 1 ∧ id < T.next ∧ (O id ∨ S.next + 2 ≤ id)) ∧ Q c O1 T ∧ T.heap S.next = .defer ∧ T.heap (S.next + 1) = .loop .done (some c) ∧ S.next + 2 ≤ T.next
 have hO' : ∀ id,O id → id ≠ S.next ∧ id ≠ S.next + 1 ∧ id < S0.next := fun id h => by have := hO id h; omega
 obtain ⟨T,O',e,t1,t2,t3,t4⟩ := hT (Hd.set H (S.next + 1) hd) (S.next + 1) J St (by
   refine ⟨fun i OO T T' h hk hn => ?_,fun OO T T' h hk hn => ?_,fun i OO T h id ho => ?_,fun OO T h id ho => ?_,fun i hi OO T h => ?_⟩
   ·obtain ⟨O1,a1,a2,a3,a4,a5,a6⟩ := h
    exact ⟨O1,a1,fun id ho => ⟨(a2 id ho).1,(a2 id ho).2.1,by have := (a2 id ho).2.2.1; omega,(a2 id ho).2.2.2⟩,keepI _ _ _ _ a3 (fun id ho => hk id ((a1 id).2 (.inl ho))) hn,(hk _ ((a1 _).2 (.inr (.inl rfl)))).trans a4,(hk _ ((a1 _).2 (.inr (.inr rfl)))).trans a5,by omega⟩
   ·obtain ⟨O1,c,a1,a2,a3,a4,a5,a6⟩ := h
    exact ⟨O1,c,a1,fun id ho => ⟨(a2 id ho).1,(a2 id ho).2.1,by have := (a2 id ho).2.2.1; omega,(a2 id ho).2.2.2⟩,keepQ _ _ _ _ a3 (fun id ho => hk id ((a1 id).2 (.inl ho))) hn,(hk _ ((a1 _).2 (.inr (.inl rfl)))).trans a4,(hk _ ((a1 _).2 (.inr (.inr rfl)))).trans a5,by omega⟩
   ·obtain ⟨O1,a1,a2,a3,a4,a5,a6⟩ := h
    rcases (a1 id).1 ho with g | g | g
    ·exact (a2 id g).2.2.1
    ·omega
    ·omega
   ·obtain ⟨O1,c,a1,a2,a3,a4,a5,a6⟩ := h
    rcases (a1 id).1 ho with g | g | g
    ·exact (a2 id g).2.2.1
    ·omega
    ·omega
   ·obtain ⟨O1,a1,a2,a3,a4,a5,a6⟩ := h
    simp only [Hd.set,if_true,Option.bind_some]
    rw [hdef i hi T a5]
    have bk : ∀ id,id ≠ S.next + 1 → (T.put (S.next + 1) (.loop .busy none)).heap id = T.heap id := fun id h => put_other _ h
    have bn : (T.put (S.next + 1) (.loop .busy none)).next = T.next := rfl
    have bl : (T.put (S.next + 1) (.loop .busy none)).heap (S.next + 1) = .loop .busy none := put_here _ _ _
    generalize T.put (S.next + 1) (.loop .busy none) = U at bk bn bl ⊢
    obtain ⟨U',O2,j,e1,c1,l1,p1,p2⟩ := step i hi O1 U (keepI _ _ _ _ a3 (fun id ho => bk id (a2 id ho).2.1) (by omega)) (by omega) bl (fun h => (a2 _ h).2.1 rfl) (fun id h => by have := (a2 id h).2.2.1; omega)
    have ul : U'.heap (S.next + 1) = .loop .busy none := (c1.eq _ (by omega) (fun h => (a2 _ h).2.1 rfl)).trans bl
    have ud : U'.heap S.next = .defer := (c1.eq _ (by omega) (fun h => (a2 _ h).1 rfl)).trans ((bk _ (by omega)).trans a4)
    have hle := c1.le
    have h2 : ∀ id,O2 id → id ≠ S.next ∧ id ≠ S.next + 1 ∧ id < U'.next ∧ (O id ∨ S.next + 2 ≤ id) := fun id h => by
     rcases c1.own id h with g | g
     ·exact ⟨(a2 id g).1,(a2 id g).2.1,l1 id h,(a2 id g).2.2.2⟩
     ·exact ⟨by omega,by omega,l1 id h,.inr (by omega)⟩
    rw [e1,endr_at j ul]
    refine ⟨j.isNone,_,fun id => O2 id ∨ id = S.next ∨ id = S.next + 1,rfl,by rw [put_next]; omega,fun id g1 g2 => ?_,fun id h => ?_,fun hj => ?_,fun hj => ?_⟩
    ·have g3 : ¬ O1 id := fun h => g2 ((a1 id).2 (.inl h))
     have g4 : id ≠ S.next + 1 := fun h => g2 ((a1 id).2 (.inr (.inr h)))
     rw [put_other _ g4,c1.eq id (by omega) g3,bk id g4]
    ·rcases h with h | h
     ·rcases c1.own id h with g | g
      ·exact .inl ((a1 id).2 (.inl g))
      ·exact .inr (by omega)
     ·exact .inl ((a1 id).2 (.inr h))
    ·have hj' : j = none := by simpa using hj
     subst hj'
     exact ⟨O2,fun _ => Iff.rfl,h2,keepI _ _ _ _ (p1 rfl) (fun id h => put_other _ (h2 id h).2.1) (Nat.le_refl _),by rw [put_other _ (by omega)]; exact ud,put_here _ _ _,by rw [put_next]; omega⟩
    ·cases j with
     | none => cases hj
     | some c => exact ⟨O2,c,fun _ => Iff.rfl,h2,keepQ _ _ _ _ (p2 c rfl) (fun id h => put_other _ (h2 id h).2.1) (Nat.le_refl _),by rw [put_other _ (by omega)]; exact ud,put_here _ _ _,by rw [put_next]; omega⟩)
  (fun id => O id ∨ id = S.next ∨ id = S.next + 1) S0 ⟨O,fun _ => Iff.rfl,fun id h => ⟨(hO' id h).1,(hO' id h).2.1,(hO' id h).2.2,.inl h⟩,keepI _ _ _ _ hI (fun id h => f2.eq id (hO id h)) f2.le,d2,l2,by omega⟩ (fun id hid => ⟨f2.eq id (hK id hid),fun ho => by
   have := hK id hid
   rcases ho with g | g | g
   ·exact hOK id g hid
   ·omega
   ·omega,by have := hK id hid; omega⟩)
 have hfr : ∀ id,id < S.next → ¬ O id → T.heap id = S.heap id := fun id h1 h2 => (t2 id (by omega) (fun ho => by
  rcases ho with g | g | g
  ·exact h2 g
  ·omega
  ·omega)).trans (f2.eq id h1)
 rcases t4 with h | h
 ·obtain ⟨O1,a1,a2,a3,a4,a5,a6⟩ := h
  refine ⟨T,none,T.put (S.next + 1) (.loop .exhausted none),O1,e,by simp [HS.finish,a5],by rw [put_other _ (by omega)]; exact a4,a6,⟨by rw [put_next]; omega,fun id h1 h2 => by rw [put_other _ (by omega)]; exact hfr id h1 h2,fun id h => (a2 id h).2.2.2.elim .inl (fun g => .inr (by omega))⟩,fun id h => ⟨(a2 id h).1,(a2 id h).2.1,(a2 id h).2.2.1⟩,fun _ => keepI _ _ _ _ a3 (fun id h => put_other _ (a2 id h).2.1) (Nat.le_refl _),fun c hc => by cases hc⟩
 ·obtain ⟨O1,c,a1,a2,a3,a4,a5,a6⟩ := h
  refine ⟨T,some c,T.put (S.next + 1) (.loop .exhausted (some c)),O1,e,by simp [HS.finish,a5],by rw [put_other _ (by omega)]; exact a4,a6,⟨by rw [put_next]; omega,fun id h1 h2 => by rw [put_other _ (by omega)]; exact hfr id h1 h2,fun id h => (a2 id h).2.2.2.elim .inl (fun g => .inr (by omega))⟩,fun id h => ⟨(a2 id h).1,(a2 id h).2.1,(a2 id h).2.2.1⟩,fun hc => (by cases hc),fun c' hc => ?_⟩
  cases hc
  exact keepQ _ _ _ _ a3 (fun id h => put_other _ (a2 id h).2.1) (Nat.le_refl _)
end Go.Proofs.YtcphapfclncggaaDoor.X
namespace Go.Proofs.YtcphapfclncggaaDoor.X
open Go.Proofs.YtcphapfclncggaaDoor.HL
set_option linter.unusedVariables false
namespace KI
abbrev Ky := Int
def kv (k : Ky) : HV := .int .i64 k
def klt (a b : Ky) : Bool := decide (a < b)
theorem klt_irrefl (a : Ky) : klt a a = false := by simp [klt]
theorem klt_trans {a b c : Ky} (h1 : klt a b = true) (h2 : klt b c = true) : klt a c = true := by simp only [klt,decide_eq_true_eq] at *; exact Int.lt_trans h1 h2
theorem klt_tri (a b : Ky) : klt a b = true ∨ a = b ∨ klt b a = true := by simp only [klt,decide_eq_true_eq]; exact Int.lt_trichotomy a b
def row1 (k : Ky) : List HV := [kv k]
theorem ldK_at {S : HS} {s : Sl} {xs : List Ky} (h : S.rows s 1 = some (xs.map row1)) {i : Nat} (hi : i < xs.length) : ∃ ad,S.idx s (i : Int) 1 = some ad ∧ S.ldI .i64 ad = some xs[i] := by
 obtain ⟨ad,h1,h2⟩ := get_at h (i := i) (v := kv xs[i]) (by simpa using hi) (by rw [List.getElem_map]; rfl)
 exact ⟨ad,h1,by rw [HS.ldI,h2]; simp [dI,kv]⟩
theorem less_spec (a b : Ky) : cmp_Less_int.f a b = some (klt a b) := by
 have h : ∀ x,cmp_isNaN_int.f x = some false := fun x => by simp [cmp_isNaN_int.f]
 rw [cmp_Less_int.f,h,Option.bind_some,if_neg (by simp),cmp_Less_int.J0,if_neg (by simp),cmp_Less_int.J1]
 rfl
def Srt (es : List Ky) : Prop := es.Pairwise fun a b => klt a b = true
theorem Srt.lt {es : List Ky} (h : Srt es) {i j : Nat} (hi : i < es.length) (hj : j < es.length) (hij : i < j) : klt es[i] es[j] = true := List.pairwise_iff_getElem.1 h i j hi hj hij
structure PosOf (es : List Ky) (t : Ky) (p : Nat) : Prop where
 le : p ≤ es.length
 lo : ∀ q (hq : q < es.length),q < p → klt es[q] t = true
 hi : ∀ q (hq : q < es.length),p ≤ q → klt es[q] t = false
theorem PosOf.gt {es : List Ky} {t : Ky} {p : Nat} (h : PosOf es t p) (hs : Srt es) (hf : t ∉ es) {q : Nat} (hq : q < es.length) (hpq : p ≤ q) : klt t es[q] = true := by
 have h1 := h.hi q hq hpq
 rcases klt_tri es[q] t with g | g | g
 ·rw [h1] at g; cases g
 ·exact absurd (g ▸ List.getElem_mem hq) hf
 ·exact g
theorem PosOf.here {es : List Ky} {t : Ky} {p : Nat} (h : PosOf es t p) (hs : Srt es) (hm : t ∈ es) : ∃ hp : p < es.length,es[p] = t := by
 obtain ⟨q,hq,he⟩ := List.getElem_of_mem hm
 have hqp : p ≤ q := by
  rcases Nat.lt_or_ge q p with g | g
  ·have := h.lo q hq g; rw [he,klt_irrefl] at this; cases this
  ·exact g
 have hp : p < es.length := by omega
 refine ⟨hp,?_⟩
 rcases Nat.eq_or_lt_of_le hqp with g | g
 ·subst g; exact he
 ·have h1 := hs.lt hp hq g
  rw [he] at h1
  rw [h.hi p hp (Nat.le_refl _)] at h1; cases h1
theorem ins_srt {es : List Ky} {t : Ky} {p : Nat} (h : PosOf es t p) (hs : Srt es) (hf : t ∉ es) : Srt (es.take p ++ [t] ++ es.drop p) := by
 unfold Srt
 rw [List.append_assoc,List.pairwise_append]
 refine ⟨List.Pairwise.sublist (List.take_sublist _ _) hs,?_,fun a ha b hb => ?_⟩
 ·rw [List.singleton_append,List.pairwise_cons]
  refine ⟨fun b hb => ?_,List.Pairwise.sublist (List.drop_sublist _ _) hs⟩
  obtain ⟨q,hq,rfl⟩ := List.getElem_of_mem hb
  rw [List.getElem_drop]
  exact h.gt hs hf _ (by omega)
 ·obtain ⟨q,hq,rfl⟩ := List.getElem_of_mem ha
  rw [List.length_take] at hq
  rw [List.getElem_take]
  have h1 := h.lo q (by omega) (by omega)
  rcases List.mem_append.1 hb with hb | hb
  ·simp only [List.mem_singleton] at hb
   subst hb; exact h1
  ·obtain ⟨q2,hq2,rfl⟩ := List.getElem_of_mem hb
   rw [List.getElem_drop]
   rw [List.length_drop] at hq2
   exact hs.lt (by omega) (by omega) (by omega)
theorem ins_mem {es : List Ky} {t : Ky} {p : Nat} (v : Ky) : v ∈ es.take p ++ [t] ++ es.drop p ↔ v ∈ es ∨ v = t := by
 simp only [List.mem_append,List.mem_singleton]
 constructor
 ·rintro ((h | h) | h)
  ·exact .inl (List.mem_of_mem_take h)
  ·exact .inr h
  ·exact .inl (List.mem_of_mem_drop h)
 ·rintro (h | h)
  ·rw [← List.take_append_drop p es,List.mem_append] at h
   rcases h with h | h
   ·exact .inl (.inl h)
   ·exact .inr h
  ·exact .inl (.inr h)
theorem erase_srt {es : List Ky} (hs : Srt es) (p : Nat) : Srt (es.eraseIdx p) := List.Pairwise.sublist (List.eraseIdx_sublist _ _) hs
theorem erase_mem {es : List Ky} (hs : Srt es) {p : Nat} (hp : p < es.length) (v : Ky) : v ∈ es.eraseIdx p ↔ v ∈ es ∧ v ≠ es[p] := by
 rw [List.mem_eraseIdx_iff_getElem]
 constructor
 ·rintro ⟨q,hq,hne,rfl⟩
  refine ⟨List.getElem_mem hq,fun he => ?_⟩
  rcases Nat.lt_or_ge q p with g | g
  ·have := hs.lt hq hp g; rw [he,klt_irrefl] at this; cases this
  ·have := hs.lt hp hq (by omega); rw [he,klt_irrefl] at this; cases this
 ·rintro ⟨hm,hne⟩
  obtain ⟨q,hq,rfl⟩ := List.getElem_of_mem hm
  exact ⟨q,hq,fun e => hne (by subst e; rfl),rfl⟩
theorem srt_ext : ∀ {a b : List Ky},Srt a → Srt b → (∀ v,v ∈ a ↔ v ∈ b) → a = b := by
 intro a
 induction a with
 | nil =>
  intro b _ _ h
  cases b with
  | nil => rfl
  | cons y b => exact absurd ((h y).2 (by simp)) (by simp)
 | cons x a ih =>
  intro b ha hb h
  cases b with
  | nil => exact absurd ((h x).1 (by simp)) (by simp)
  | cons y b =>
   have ha' := List.pairwise_cons.1 ha
   have hb' := List.pairwise_cons.1 hb
   have hxy : x = y := by
    rcases List.mem_cons.1 ((h x).1 (by simp)) with g | g
    ·exact g
    ·rcases List.mem_cons.1 ((h y).2 (by simp)) with g2 | g2
     ·exact g2.symm
     ·have h1 := hb'.1 x g
      have h2 := ha'.1 y g2
      have := klt_trans h1 h2
      rw [klt_irrefl] at this; cases this
   subst hxy
   congr 1
   refine ih ha'.2 hb'.2 fun v => ?_
   have h1 := h v
   simp only [List.mem_cons] at h1
   constructor
   ·intro hv
    rcases h1.1 (.inr hv) with g | g
    ·subst g; have := ha'.1 v hv; rw [klt_irrefl] at this; cases this
    ·exact g
   ·intro hv
    rcases h1.2 (.inr hv) with g | g
    ·subst g; have := hb'.1 v hv; rw [klt_irrefl] at this; cases this
    ·exact g
theorem bs_spec {k : Nat} {S : HS} {s : Sl} {es : List Ky} {t : Ky} (hk : 2000 ≤ k) (hs : Srt es) (hle : es.length ≤ 1000) (hr : S.rows s 1 = some (es.map row1)) :
  ∃ p : Nat,slices_BinarySearch_int_int.f k s t S = some (((p : Int),decide (t ∈ es)),S) ∧ PosOf es t p := by
 have hsl : (s.len : Int) = es.length := by rw [← rows_len hr]; simp
 have hloop : ∀ (n i j : Nat),j - i < n → i ≤ j → j ≤ es.length → (∀ q (hq : q < es.length),q < i → klt es[q] t = true) → (∀ q (hq : q < es.length),j ≤ q → klt es[q] t = false) →
   ∃ p : Nat,slices_BinarySearch_int_int.L0 k n s t (es.length : Int) (i : Int) (j : Int) S = some (((p : Int),decide (t ∈ es)),S) ∧ PosOf es t p := by
  intro n
  induction n with
  | zero => intro i j h; omega
  | succ n ih =>
   intro i j hf hij hj hlo hhi
   rw [slices_BinarySearch_int_int.L0]
   by_cases hlt : i < j
   ·rw [if_pos (by omega),mid_eq (by omega)]
    have hm : (i + j) / 2 < es.length := by omega
    obtain ⟨ad,a1,a2⟩ := ldK_at hr hm
    rw [a1,Option.bind_some,a2,Option.bind_some,less_spec,Option.bind_some]
    cases hc : klt es[(i + j) / 2] t with
    | true =>
     rw [if_pos rfl,w64_id (by omega) (by omega),show ((((i + j) / 2 : Nat) : Int) + 1) = (((i + j) / 2 + 1 : Nat) : Int) by simp]
     exact ih ((i + j) / 2 + 1) j (by omega) (by omega) hj (fun q hq hqi => by
      rcases Nat.lt_or_ge q ((i + j) / 2) with h | h
      ·exact klt_trans (hs.lt hq hm h) hc
      ·obtain rfl : q = (i + j) / 2 := by omega
       exact hc) hhi
    | false =>
     rw [if_neg (by simp)]
     exact ih i ((i + j) / 2) (by omega) (by omega) (by omega) hlo (fun q hq hqi => by
      rcases Nat.lt_or_ge ((i + j) / 2) q with h | h
      ·cases h2 : klt es[q] t with
       | false => rfl
       | true => have := klt_trans (hs.lt hm hq h) h2; rw [hc] at this; cases this
      ·obtain rfl : q = (i + j) / 2 := by omega
       exact hc)
   ·obtain rfl : i = j := by omega
    rw [if_neg (by omega)]
    have hp : PosOf es t i := ⟨hj,hlo,hhi⟩
    refine ⟨i,?_,hp⟩
    by_cases hend : i < es.length
    ·obtain ⟨ad,a1,a2⟩ := ldK_at hr hend
     rw [if_pos (by omega),a1,Option.bind_some,a2,Option.bind_some]
     by_cases he : es[i] = t
     ·rw [if_pos he,slices_BinarySearch_int_int.J1,if_pos (by simpa using hend),slices_BinarySearch_int_int.J2,decide_eq_true (he ▸ List.getElem_mem hend)]
     ·have hno : t ∉ es := fun hm => by
       obtain ⟨_,h2⟩ := hp.here hs hm
       exact he h2
      rw [if_neg he,Option.bind_some,a2,Option.bind_some,show slices_isNaN_int.f es[i] = some false by simp [slices_isNaN_int.f],Option.bind_some,if_neg (by simp),slices_BinarySearch_int_int.J3,if_pos (by simpa using hend),if_neg (by simpa using he),slices_BinarySearch_int_int.J1,if_pos (by simpa using hend),slices_BinarySearch_int_int.J2,decide_eq_false hno]
    ·have hno : t ∉ es := fun hm => by
      obtain ⟨h1,_⟩ := hp.here hs hm
      exact hend h1
     rw [if_neg (by omega),slices_BinarySearch_int_int.J2,decide_eq_false hno]
 rw [slices_BinarySearch_int_int.f,hsl]
 exact hloop k 0 es.length (by omega) (Nat.zero_le _) (Nat.le_refl _) (fun q hq h => by omega) (fun q hq h => by omega)
/-! ### a set -/
structure SI (p : Nat) (s : Sl) (xs : List Ky) (S : HS) : Prop where
 cell : S.heap p = .cells 1 [[s.hv]] true
 ov : OV S 1 s (xs.map row1)
 ne : ∀ q,s.a = some q → q.1 ≠ p
 hi : p < S.next
 srt : Srt xs
 cnt : xs.length ≤ 1000
theorem SI.lt {p : Nat} {s : Sl} {xs : List Ky} {S : HS} (h : SI p s xs S) {id : Nat} (ho : Own p s id) : id < S.next := by
 rcases ho with rfl | ⟨q,h1,rfl⟩
 ·exact h.hi
 ·exact h.ov.lt h1
theorem SI.keep {p : Nat} {s : Sl} {xs : List Ky} {S S' : HS} (h : SI p s xs S) (he : ∀ id,Own p s id → S'.heap id = S.heap id) (hn : S.next ≤ S'.next) : SI p s xs S' :=
 ⟨(he p (.inl rfl)).trans h.cell,h.ov.keep (fun q hq => he q.1 (.inr ⟨q,hq,rfl⟩)) hn,h.ne,Nat.lt_of_lt_of_le h.hi hn,h.srt,h.cnt⟩
theorem SI.fr {p : Nat} {s : Sl} {xs : List Ky} {S S' : HS} (h : SI p s xs S) (hf : Fr S.next S S') : SI p s xs S' := h.keep (fun id ho => hf.eq id (h.lt ho)) hf.le
theorem SI.ld {p : Nat} {s : Sl} {xs : List Ky} {S : HS} (h : SI p s xs S) : S.ldSl (HA.fld (HA.cell0 p) 0) = some s := row_ldSl (cell_row h.cell) rfl rfl
theorem SI.slen {p : Nat} {s : Sl} {xs : List Ky} {S : HS} (h : SI p s xs S) : (s.len : Int) = xs.length := by rw [h.ov.len]; simp
theorem set_put {p : Nat} {s s' : Sl} {S : HS} (h : S.heap p = .cells 1 [[s.hv]] true) : S.sets (HA.fld (HA.cell0 p) 0) [s'.hv] = some (S.put p (.cells 1 [[s'.hv]] true)) := (sets_row h rfl (by simp)).trans rfl
theorem ins_spec {p : Nat} {s : Sl} {xs : List Ky} {S : HS} (h : SI p s xs S) {t : Ky} {i : Nat} (hp : PosOf xs t i) (hno : t ∉ xs) (hroom : xs.length < 1000) :
  ∃ s' S' S1,slices_Insert_int_int_w.f s (i : Int) (S.lit [[.int .i64 t]] 1).1 (S.lit [[.int .i64 t]] 1).2 = some (s',S1) ∧ S1.sets (HA.fld (HA.cell0 p) 0) [s'.hv] = some S' ∧ SI p s' (xs.take i ++ [t] ++ xs.drop i) S' ∧ Only p s s' S S' := by
 obtain ⟨s',S1,a1,a2,a3,a4,a5⟩ := ins_ov (row := row1 t) h.ov (i := i) (by simpa using hp.le) (by simp; omega)
 have hcell : S1.heap p = .cells 1 [[s.hv]] true := by rw [a4 p h.hi h.ne]; exact h.cell
 have hne' : ∀ q,s'.a = some q → q.1 ≠ p := fun q hq => by have := a5 q hq; have := h.hi; omega
 refine ⟨s',_,S1,a1,set_put hcell,⟨put_here _ _ _,?_,hne',Nat.lt_of_lt_of_le h.hi a3,ins_srt hp h.srt hno,by simp; omega⟩,⟨by rw [put_next]; exact a3,fun id g1 g2 => ?_,fun id ho => ?_⟩⟩
 ·have hm : (xs.take i ++ [t] ++ xs.drop i).map row1 = (xs.map row1).take i ++ [row1 t] ++ (xs.map row1).drop i := by simp only [List.map_append,List.map_take,List.map_drop,List.map_cons,List.map_nil]
  rw [hm]
  exact a2.keep (fun q hq => put_other _ (hne' q hq)) (Nat.le_refl _)
 ·rw [put_other _ (fun e => g2 (.inl e))]
  exact a4 id g1 (fun q hq e => g2 (.inr ⟨q,hq,e⟩))
 ·rcases ho with g | ⟨q,g1,g2⟩
  ·exact .inl (.inl g)
  ·right; rw [← g2]; exact a5 q g1
theorem del_spec {p : Nat} {s : Sl} {xs : List Ky} {S : HS} (h : SI p s xs S) {i : Nat} (hi : i < xs.length) :
  ∃ s' S' S1,slices_Delete_int_int_w.f s (i : Int) ((i + 1 : Nat) : Int) S = some (s',S1) ∧ S1.sets (HA.fld (HA.cell0 p) 0) [s'.hv] = some S' ∧ SI p s' (xs.eraseIdx i) S' ∧ Only p s s' S S' := by
 have hcnt := h.cnt
 obtain ⟨s',S1,a1,a2,a3,a4,a5⟩ := del_ov h.ov (i := i) (by simpa using hi) (by simp; omega)
 have hcell : S1.heap p = .cells 1 [[s.hv]] true := by rw [a4 p h.hi h.ne]; exact h.cell
 have hne' : ∀ q,s'.a = some q → q.1 ≠ p := fun q hq => by have := a5 q hq; have := h.hi; omega
 refine ⟨s',_,S1,a1,set_put hcell,⟨put_here _ _ _,?_,hne',Nat.lt_of_lt_of_le h.hi a3,erase_srt h.srt i,by rw [List.length_eraseIdx,if_pos hi]; omega⟩,⟨by rw [put_next]; exact a3,fun id g1 g2 => ?_,fun id ho => ?_⟩⟩
 ·rw [Go.ChangeMaps.map_eraseIdx]
  exact a2.keep (fun q hq => put_other _ (hne' q hq)) (Nat.le_refl _)
 ·rw [put_other _ (fun e => g2 (.inl e))]
  exact a4 id g1 (fun q hq e => g2 (.inr ⟨q,hq,e⟩))
 ·rcases ho with g | ⟨q,g1,g2⟩
  ·exact .inl (.inl g)
  ·right; rw [← g2]; exact a5 q g1
theorem add_spec {k p : Nat} {s sl : Sl} {xs ls : List Ky} {S : HS} (hk : 2000 ≤ k) (h : SI p s xs S) (hr : S.rows sl 1 = some (ls.map row1)) (hlt : ∀ q,sl.a = some q → q.1 < S.next ∧ ¬ Own p s q.1) (hc : xs.length + ls.length ≤ 1000) :
  ∃ s' xs' S',set_Set_int_Add.f k (some (HA.cell0 p)) sl S = some ((xs'.length : Int) - xs.length,S') ∧ SI p s' xs' S' ∧ Only p s s' S S' ∧ (∀ v,v ∈ xs' ↔ v ∈ xs ∨ v ∈ ls) ∧ xs.length ≤ xs'.length ∧ xs'.length ≤ xs.length + ls.length := by
 have hsl : (sl.len : Int) = ls.length := by rw [← rows_len hr]; simp
 have hloop : ∀ (f i : Nat) (T : HS) (s1 : Sl) (ys : List Ky),ls.length - i < f → i ≤ ls.length → SI p s1 ys T → Only p s s1 S T → (∀ v,v ∈ ys ↔ v ∈ xs ∨ v ∈ ls.take i) → xs.length ≤ ys.length → ys.length ≤ xs.length + i →
   ∃ s' xs' S',set_Set_int_Add.L0 k f (some (HA.cell0 p)) ((ys.length : Int) - xs.length) sl (ls.length : Int) (i : Int) T = some ((xs'.length : Int) - xs.length,S') ∧ SI p s' xs' S' ∧ Only p s s' S S' ∧ (∀ v,v ∈ xs' ↔ v ∈ xs ∨ v ∈ ls) ∧ xs.length ≤ xs'.length ∧ xs'.length ≤ xs.length + ls.length := by
  intro f
  induction f with
  | zero => intro i T s1 ys h; omega
  | succ f ih =>
   intro i T s1 ys hf hi hT hO hm hge hle
   have hrT : T.rows sl 1 = some (ls.map row1) := rows_keep hr fun q hq => hO.eq q.1 (hlt q hq).1 (hlt q hq).2
   rw [set_Set_int_Add.L0]
   by_cases hil : i < ls.length
   ·obtain ⟨ad,a1,a2⟩ := ldK_at hrT hil
    obtain ⟨j,b1,hp⟩ := bs_spec (t := ls[i]) hk hT.srt hT.cnt hT.ov.rows
    have hmem : ∀ v,(v ∈ ls.take (i + 1) ↔ v ∈ ls.take i ∨ v = ls[i]) := fun v => by rw [List.take_succ_eq_append_getElem hil,List.mem_append,List.mem_singleton]
    rw [if_pos (by omega),a1,Option.bind_some,a2,Option.bind_some,Option.bind_some,hT.ld,Option.bind_some,b1,Option.bind_some]
    simp only
    by_cases hin : ls[i] ∈ ys
    ·rw [decide_eq_true hin,if_neg (by simp),set_Set_int_Add.J1,w64_id (by omega) (by omega),show ((i : Int) + 1) = ((i + 1 : Nat) : Int) by simp]
     refine ih (i + 1) T s1 ys (by omega) (by omega) hT hO (fun v => ?_) hge (by omega)
     rw [hmem,← or_assoc,← hm]
     exact ⟨fun h => .inl h,fun h => h.elim id (fun e => e ▸ hin)⟩
    ·obtain ⟨s2,T2,T1,c1,c2,c3,c4⟩ := ins_spec hT hp hin (by omega)
     have hlen : (ys.take j ++ [ls[i]] ++ ys.drop j).length = ys.length + 1 := by
      have := hp.le
      simp only [List.length_append,List.length_take,List.length_drop,List.length_singleton]; omega
     rw [decide_eq_false hin,if_pos (by simp),Option.bind_some,hT.ld,Option.bind_some,letv,c1,Option.bind_some,Option.bind_some,c2,Option.bind_some,set_Set_int_Add.J1,w64_id (n := (i : Int) + 1) (by omega) (by omega),show ((i : Int) + 1) = ((i + 1 : Nat) : Int) by simp,w64_id (by omega) (by omega)]
     have e : (ys.length : Int) - xs.length + 1 = ((ys.take j ++ [ls[i]] ++ ys.drop j).length : Int) - xs.length := by rw [hlen]; omega
     rw [e]
     refine ih (i + 1) T2 s2 _ (by omega) (by omega) c3 (hO.trans c4) (fun v => ?_) (by omega) (by omega)
     rw [ins_mem,hmem,← or_assoc,← hm]
   ·obtain rfl : i = ls.length := by omega
    rw [if_neg (by omega)]
    rw [List.take_length] at hm
    exact ⟨s1,ys,T,rfl,hT,hO,hm,hge,hle⟩
 rw [set_Set_int_Add.f,if_neg (by simp),hsl]
 have := hloop k 0 S s xs (by omega) (Nat.zero_le _) h (Only.refl _ _ _) (fun v => by simp) (Nat.le_refl _) (by omega)
 rw [show ((xs.length : Int) - xs.length) = 0 by omega] at this
 exact this
theorem remove_spec {k p : Nat} {s sl : Sl} {xs ls : List Ky} {S : HS} (hk : 2000 ≤ k) (h : SI p s xs S) (hr : S.rows sl 1 = some (ls.map row1)) (hlt : ∀ q,sl.a = some q → q.1 < S.next ∧ ¬ Own p s q.1) (hc : ls.length ≤ 1000) :
  ∃ s' xs' S',set_Set_int_Remove.f k (some (HA.cell0 p)) sl S = some ((xs.length : Int) - xs'.length,S') ∧ SI p s' xs' S' ∧ Only p s s' S S' ∧ (∀ v,v ∈ xs' ↔ v ∈ xs ∧ v ∉ ls) ∧ xs'.length ≤ xs.length := by
 have hsl : (sl.len : Int) = ls.length := by rw [← rows_len hr]; simp
 have hcnt := h.cnt
 have hloop : ∀ (f i : Nat) (T : HS) (s1 : Sl) (ys : List Ky),ls.length - i < f → i ≤ ls.length → SI p s1 ys T → Only p s s1 S T → (∀ v,v ∈ ys ↔ v ∈ xs ∧ v ∉ ls.take i) → ys.length ≤ xs.length →
   ∃ s' xs' S',set_Set_int_Remove.L0 k f (some (HA.cell0 p)) ((xs.length : Int) - ys.length) sl (ls.length : Int) (i : Int) T = some ((xs.length : Int) - xs'.length,S') ∧ SI p s' xs' S' ∧ Only p s s' S S' ∧ (∀ v,v ∈ xs' ↔ v ∈ xs ∧ v ∉ ls) ∧ xs'.length ≤ xs.length := by
  intro f
  induction f with
  | zero => intro i T s1 ys h; omega
  | succ f ih =>
   intro i T s1 ys hf hi hT hO hm hle
   have hrT : T.rows sl 1 = some (ls.map row1) := rows_keep hr fun q hq => hO.eq q.1 (hlt q hq).1 (hlt q hq).2
   rw [set_Set_int_Remove.L0]
   by_cases hil : i < ls.length
   ·obtain ⟨ad,a1,a2⟩ := ldK_at hrT hil
    obtain ⟨j,b1,hp⟩ := bs_spec (t := ls[i]) hk hT.srt hT.cnt hT.ov.rows
    have hmem : ∀ v,(v ∉ ls.take (i + 1) ↔ v ∉ ls.take i ∧ v ≠ ls[i]) := fun v => by rw [List.take_succ_eq_append_getElem hil,List.mem_append,List.mem_singleton,not_or]
    rw [if_pos (by omega),a1,Option.bind_some,a2,Option.bind_some,Option.bind_some,hT.ld,Option.bind_some,b1,Option.bind_some]
    simp only
    by_cases hin : ls[i] ∈ ys
    ·obtain ⟨hj,he⟩ := hp.here hT.srt hin
     obtain ⟨s2,T2,T1,c1,c2,c3,c4⟩ := del_spec hT hj
     have hlen : (ys.eraseIdx j).length = ys.length - 1 := by rw [List.length_eraseIdx,if_pos hj]
     rw [decide_eq_true hin,if_pos rfl,Option.bind_some,hT.ld,Option.bind_some,w64_id (n := (j : Int) + 1) (by omega) (by omega),show ((j : Int) + 1) = ((j + 1 : Nat) : Int) by simp,c1,Option.bind_some,Option.bind_some,c2,Option.bind_some,set_Set_int_Remove.J1,w64_id (n := (i : Int) + 1) (by omega) (by omega),show ((i : Int) + 1) = ((i + 1 : Nat) : Int) by simp,w64_id (by omega) (by omega)]
     have e : (xs.length : Int) - ys.length + 1 = (xs.length : Int) - ((ys.eraseIdx j).length : Int) := by rw [hlen]; omega
     rw [e]
     refine ih (i + 1) T2 s2 _ (by omega) (by omega) c3 (hO.trans c4) (fun v => ?_) (by omega)
     rw [erase_mem hT.srt hj,hmem,← and_assoc,← hm,he]
    ·rw [decide_eq_false hin,if_neg (by simp),set_Set_int_Remove.J1,w64_id (by omega) (by omega),show ((i : Int) + 1) = ((i + 1 : Nat) : Int) by simp]
     refine ih (i + 1) T s1 ys (by omega) (by omega) hT hO (fun v => ?_) hle
     rw [hmem,← and_assoc,← hm]
     exact ⟨fun h => ⟨h,fun e => hin (e ▸ h)⟩,fun h => h.1⟩
   ·obtain rfl : i = ls.length := by omega
    rw [if_neg (by omega)]
    rw [List.take_length] at hm
    exact ⟨s1,ys,T,rfl,hT,hO,hm,hle⟩
 rw [set_Set_int_Remove.f,if_neg (by simp),hsl]
 have := hloop k 0 S s xs (by omega) (Nat.zero_le _) h (Only.refl _ _ _) (fun v => by simp) (Nat.le_refl _)
 rw [show ((xs.length : Int) - xs.length) = 0 by omega] at this
 exact this
theorem len_spec {p : Nat} {s : Sl} {xs : List Ky} {S : HS} (h : SI p s xs S) : set_Set_int_Len.f (some (HA.cell0 p)) S = some ((xs.length : Int),S) := by
 rw [set_Set_int_Len.f,if_neg (by simp),Option.bind_some,h.ld,Option.bind_some,h.slen]
theorem of_spec {k : Nat} {sl : Sl} {ls : List Ky} {S : HS} (hk : 2000 ≤ k) (hr : Rd S.next S 1 sl (ls.map row1)) (hc : ls.length ≤ 1000) :
  ∃ s' xs' S',set_Of_int.f k sl S = some (some (HA.cell0 S.next),S') ∧ SI S.next s' xs' S' ∧ Fr S.next S S' ∧ (∀ id,Own S.next s' id → S.next ≤ id) ∧ (∀ v,v ∈ xs' ↔ v ∈ ls) ∧ xs'.length ≤ ls.length := by
 have fn : Fr S.next S (S.new (.cells 1 [[Sl.nil.hv]] true)) := Fr.new (Nat.le_refl _) _
 have h0 : SI S.next Sl.nil [] (S.new (.cells 1 [[Sl.nil.hv]] true)) := ⟨new_here _ _,.inl ⟨rfl,rfl,rfl⟩,fun q hq => (by cases hq),Nat.lt_succ_self _,List.Pairwise.nil,by simp⟩
 have nn : (S.new (.cells 1 [[Sl.nil.hv]] true)).next = S.next + 1 := rfl
 obtain ⟨s',xs',S',e,g1,g2,g3,g4,g5⟩ := add_spec hk h0 (hr.frame fn (Nat.le_refl _)).rows (fun q hq => ⟨by have := hr.lt q hq; omega,fun ho => by
  rcases ho with g | ⟨q',g,_⟩
  ·have := hr.lt q hq; omega
  ·cases g⟩) (by simpa using hc)
 rw [set_Of_int.f,letv,e,Option.bind_some]
 refine ⟨s',xs',S',rfl,g1,⟨by have := g2.le; omega,fun id hid => ?_⟩,fun id ho => ?_,fun v => by rw [g3]; simp,by simpa using g5⟩
 ·rw [g2.eq id (by omega) (fun ho => by
   rcases ho with g | ⟨q',g,_⟩
   ·omega
   ·cases g)]
  exact fn.eq id hid
 ·rcases g2.own id ho with g | g
  ·rcases g with g | ⟨q',g,_⟩
   ·omega
   ·cases g
  ·omega
end KI
end Go.Proofs.YtcphapfclncggaaDoor.X
namespace Go.Proofs.YtcphapfclncggaaDoor.X
open Go.Proofs.YtcphapfclncggaaDoor.HL
set_option linter.unusedVariables false
namespace KS
abbrev Ky := List UInt8
def kv (k : Ky) : HV := .str k
def klt (a b : Ky) : Bool := slt a b
theorem klt_irrefl : ∀ (x : Ky),klt x x = false := by
 intro x
 unfold klt
 induction x with
 | nil => rfl
 | cons a x ih => simp [slt,ih]
theorem klt_trans : ∀ {a b c : Ky},klt a b = true → klt b c = true → klt a c = true := by
 unfold klt
 intro a
 induction a with
 | nil => intro b c h1 h2; cases c with
  | nil => cases b <;> simp [slt] at h2
  | cons z c => rfl
 | cons x a ih =>
  intro b c h1 h2
  cases b with
  | nil => simp [slt] at h1
  | cons y b =>
   cases c with
   | nil => simp [slt] at h2
   | cons z c =>
    simp only [slt,Bool.or_eq_true,decide_eq_true_eq,Bool.and_eq_true,beq_iff_eq] at *
    rcases h1 with h1 | ⟨h1,h1'⟩
    ·rcases h2 with h2 | ⟨h2,_⟩
     ·exact .inl (UInt8.lt_trans h1 h2)
     ·exact .inl (h2 ▸ h1)
    ·rcases h2 with h2 | ⟨h2,h2'⟩
     ·exact .inl (h1 ▸ h2)
     ·exact .inr ⟨h1.trans h2,ih h1' h2'⟩
theorem klt_tri : ∀ (a b : Ky),klt a b = true ∨ a = b ∨ klt b a = true := by
 unfold klt
 intro a
 induction a with
 | nil => intro b; cases b with
  | nil => exact .inr (.inl rfl)
  | cons y b => exact .inl rfl
 | cons x a ih =>
  intro b
  cases b with
  | nil => exact .inr (.inr rfl)
  | cons y b =>
   simp only [slt,Bool.or_eq_true,decide_eq_true_eq,Bool.and_eq_true,beq_iff_eq,List.cons.injEq]
   rcases Nat.lt_trichotomy x.toNat y.toNat with h | h | h
   ·exact .inl (.inl (UInt8.lt_iff_toNat_lt.2 h))
   ·have hxy := UInt8.toNat_inj.1 h
    rcases ih b with g | g | g
    ·exact .inl (.inr ⟨hxy,g⟩)
    ·exact .inr (.inl ⟨hxy,g⟩)
    ·exact .inr (.inr (.inr ⟨hxy.symm,g⟩))
   ·exact .inr (.inr (.inl (UInt8.lt_iff_toNat_lt.2 h)))
def row1 (k : Ky) : List HV := [kv k]
theorem ldK_at {S : HS} {s : Sl} {xs : List Ky} (h : S.rows s 1 = some (xs.map row1)) {i : Nat} (hi : i < xs.length) : ∃ ad,S.idx s (i : Int) 1 = some ad ∧ S.ldS ad = some xs[i] := by
 obtain ⟨ad,h1,h2⟩ := get_at h (i := i) (v := kv xs[i]) (by simpa using hi) (by rw [List.getElem_map]; rfl)
 exact ⟨ad,h1,by rw [HS.ldS,h2]; simp [dS,kv]⟩
theorem less_spec (a b : Ky) : cmp_Less_string.f a b = some (klt a b) := by
 have h : ∀ x,cmp_isNaN_string.f x = some false := fun x => by simp [cmp_isNaN_string.f]
 rw [cmp_Less_string.f,h,Option.bind_some,if_neg (by simp),cmp_Less_string.J0,if_neg (by simp),cmp_Less_string.J1]
 rfl
def Srt (es : List Ky) : Prop := es.Pairwise fun a b => klt a b = true
theorem Srt.lt {es : List Ky} (h : Srt es) {i j : Nat} (hi : i < es.length) (hj : j < es.length) (hij : i < j) : klt es[i] es[j] = true := List.pairwise_iff_getElem.1 h i j hi hj hij
structure PosOf (es : List Ky) (t : Ky) (p : Nat) : Prop where
 le : p ≤ es.length
 lo : ∀ q (hq : q < es.length),q < p → klt es[q] t = true
 hi : ∀ q (hq : q < es.length),p ≤ q → klt es[q] t = false
theorem PosOf.gt {es : List Ky} {t : Ky} {p : Nat} (h : PosOf es t p) (hs : Srt es) (hf : t ∉ es) {q : Nat} (hq : q < es.length) (hpq : p ≤ q) : klt t es[q] = true := by
 have h1 := h.hi q hq hpq
 rcases klt_tri es[q] t with g | g | g
 ·rw [h1] at g; cases g
 ·exact absurd (g ▸ List.getElem_mem hq) hf
 ·exact g
theorem PosOf.here {es : List Ky} {t : Ky} {p : Nat} (h : PosOf es t p) (hs : Srt es) (hm : t ∈ es) : ∃ hp : p < es.length,es[p] = t := by
 obtain ⟨q,hq,he⟩ := List.getElem_of_mem hm
 have hqp : p ≤ q := by
  rcases Nat.lt_or_ge q p with g | g
  ·have := h.lo q hq g; rw [he,klt_irrefl] at this; cases this
  ·exact g
 have hp : p < es.length := by omega
 refine ⟨hp,?_⟩
 rcases Nat.eq_or_lt_of_le hqp with g | g
 ·subst g; exact he
 ·have h1 := hs.lt hp hq g
  rw [he] at h1
  rw [h.hi p hp (Nat.le_refl _)] at h1; cases h1
theorem ins_srt {es : List Ky} {t : Ky} {p : Nat} (h : PosOf es t p) (hs : Srt es) (hf : t ∉ es) : Srt (es.take p ++ [t] ++ es.drop p) := by
 unfold Srt
 rw [List.append_assoc,List.pairwise_append]
 refine ⟨List.Pairwise.sublist (List.take_sublist _ _) hs,?_,fun a ha b hb => ?_⟩
 ·rw [List.singleton_append,List.pairwise_cons]
  refine ⟨fun b hb => ?_,List.Pairwise.sublist (List.drop_sublist _ _) hs⟩
  obtain ⟨q,hq,rfl⟩ := List.getElem_of_mem hb
  rw [List.getElem_drop]
  exact h.gt hs hf _ (by omega)
 ·obtain ⟨q,hq,rfl⟩ := List.getElem_of_mem ha
  rw [List.length_take] at hq
  rw [List.getElem_take]
  have h1 := h.lo q (by omega) (by omega)
  rcases List.mem_append.1 hb with hb | hb
  ·simp only [List.mem_singleton] at hb
   subst hb; exact h1
  ·obtain ⟨q2,hq2,rfl⟩ := List.getElem_of_mem hb
   rw [List.getElem_drop]
   rw [List.length_drop] at hq2
   exact hs.lt (by omega) (by omega) (by omega)
theorem ins_mem {es : List Ky} {t : Ky} {p : Nat} (v : Ky) : v ∈ es.take p ++ [t] ++ es.drop p ↔ v ∈ es ∨ v = t := by
 simp only [List.mem_append,List.mem_singleton]
 constructor
 ·rintro ((h | h) | h)
  ·exact .inl (List.mem_of_mem_take h)
  ·exact .inr h
  ·exact .inl (List.mem_of_mem_drop h)
 ·rintro (h | h)
  ·rw [← List.take_append_drop p es,List.mem_append] at h
   rcases h with h | h
   ·exact .inl (.inl h)
   ·exact .inr h
  ·exact .inl (.inr h)
theorem erase_srt {es : List Ky} (hs : Srt es) (p : Nat) : Srt (es.eraseIdx p) := List.Pairwise.sublist (List.eraseIdx_sublist _ _) hs
theorem erase_mem {es : List Ky} (hs : Srt es) {p : Nat} (hp : p < es.length) (v : Ky) : v ∈ es.eraseIdx p ↔ v ∈ es ∧ v ≠ es[p] := by
 rw [List.mem_eraseIdx_iff_getElem]
 constructor
 ·rintro ⟨q,hq,hne,rfl⟩
  refine ⟨List.getElem_mem hq,fun he => ?_⟩
  rcases Nat.lt_or_ge q p with g | g
  ·have := hs.lt hq hp g; rw [he,klt_irrefl] at this; cases this
  ·have := hs.lt hp hq (by omega); rw [he,klt_irrefl] at this; cases this
 ·rintro ⟨hm,hne⟩
  obtain ⟨q,hq,rfl⟩ := List.getElem_of_mem hm
  exact ⟨q,hq,fun e => hne (by subst e; rfl),rfl⟩
theorem srt_ext : ∀ {a b : List Ky},Srt a → Srt b → (∀ v,v ∈ a ↔ v ∈ b) → a = b := by
 intro a
 induction a with
 | nil =>
  intro b _ _ h
  cases b with
  | nil => rfl
  | cons y b => exact absurd ((h y).2 (by simp)) (by simp)
 | cons x a ih =>
  intro b ha hb h
  cases b with
  | nil => exact absurd ((h x).1 (by simp)) (by simp)
  | cons y b =>
   have ha' := List.pairwise_cons.1 ha
   have hb' := List.pairwise_cons.1 hb
   have hxy : x = y := by
    rcases List.mem_cons.1 ((h x).1 (by simp)) with g | g
    ·exact g
    ·rcases List.mem_cons.1 ((h y).2 (by simp)) with g2 | g2
     ·exact g2.symm
     ·have h1 := hb'.1 x g
      have h2 := ha'.1 y g2
      have := klt_trans h1 h2
      rw [klt_irrefl] at this; cases this
   subst hxy
   congr 1
   refine ih ha'.2 hb'.2 fun v => ?_
   have h1 := h v
   simp only [List.mem_cons] at h1
   constructor
   ·intro hv
    rcases h1.1 (.inr hv) with g | g
    ·subst g; have := ha'.1 v hv; rw [klt_irrefl] at this; cases this
    ·exact g
   ·intro hv
    rcases h1.2 (.inr hv) with g | g
    ·subst g; have := hb'.1 v hv; rw [klt_irrefl] at this; cases this
    ·exact g
theorem bs_spec {k : Nat} {S : HS} {s : Sl} {es : List Ky} {t : Ky} (hk : 2000 ≤ k) (hs : Srt es) (hle : es.length ≤ 1000) (hr : S.rows s 1 = some (es.map row1)) :
  ∃ p : Nat,slices_BinarySearch_string_string.f k s t S = some (((p : Int),decide (t ∈ es)),S) ∧ PosOf es t p := by
 have hsl : (s.len : Int) = es.length := by rw [← rows_len hr]; simp
 have hloop : ∀ (n i j : Nat),j - i < n → i ≤ j → j ≤ es.length → (∀ q (hq : q < es.length),q < i → klt es[q] t = true) → (∀ q (hq : q < es.length),j ≤ q → klt es[q] t = false) →
   ∃ p : Nat,slices_BinarySearch_string_string.L0 k n s t (es.length : Int) (i : Int) (j : Int) S = some (((p : Int),decide (t ∈ es)),S) ∧ PosOf es t p := by
  intro n
  induction n with
  | zero => intro i j h; omega
  | succ n ih =>
   intro i j hf hij hj hlo hhi
   rw [slices_BinarySearch_string_string.L0]
   by_cases hlt : i < j
   ·rw [if_pos (by omega),mid_eq (by omega)]
    have hm : (i + j) / 2 < es.length := by omega
    obtain ⟨ad,a1,a2⟩ := ldK_at hr hm
    rw [a1,Option.bind_some,a2,Option.bind_some,less_spec,Option.bind_some]
    cases hc : klt es[(i + j) / 2] t with
    | true =>
     rw [if_pos rfl,w64_id (by omega) (by omega),show ((((i + j) / 2 : Nat) : Int) + 1) = (((i + j) / 2 + 1 : Nat) : Int) by simp]
     exact ih ((i + j) / 2 + 1) j (by omega) (by omega) hj (fun q hq hqi => by
      rcases Nat.lt_or_ge q ((i + j) / 2) with h | h
      ·exact klt_trans (hs.lt hq hm h) hc
      ·obtain rfl : q = (i + j) / 2 := by omega
       exact hc) hhi
    | false =>
     rw [if_neg (by simp)]
     exact ih i ((i + j) / 2) (by omega) (by omega) (by omega) hlo (fun q hq hqi => by
      rcases Nat.lt_or_ge ((i + j) / 2) q with h | h
      ·cases h2 : klt es[q] t with
       | false => rfl
       | true => have := klt_trans (hs.lt hm hq h) h2; rw [hc] at this; cases this
      ·obtain rfl : q = (i + j) / 2 := by omega
       exact hc)
   ·obtain rfl : i = j := by omega
    rw [if_neg (by omega)]
    have hp : PosOf es t i := ⟨hj,hlo,hhi⟩
    refine ⟨i,?_,hp⟩
    by_cases hend : i < es.length
    ·obtain ⟨ad,a1,a2⟩ := ldK_at hr hend
     rw [if_pos (by omega),a1,Option.bind_some,a2,Option.bind_some]
     by_cases he : es[i] = t
     ·rw [if_pos he,slices_BinarySearch_string_string.J1,if_pos (by simpa using hend),slices_BinarySearch_string_string.J2,decide_eq_true (he ▸ List.getElem_mem hend)]
     ·have hno : t ∉ es := fun hm => by
       obtain ⟨_,h2⟩ := hp.here hs hm
       exact he h2
      rw [if_neg he,Option.bind_some,a2,Option.bind_some,show slices_isNaN_string.f es[i] = some false by simp [slices_isNaN_string.f],Option.bind_some,if_neg (by simp),slices_BinarySearch_string_string.J3,if_pos (by simpa using hend),if_neg (by simpa using he),slices_BinarySearch_string_string.J1,if_pos (by simpa using hend),slices_BinarySearch_string_string.J2,decide_eq_false hno]
    ·have hno : t ∉ es := fun hm => by
      obtain ⟨h1,_⟩ := hp.here hs hm
      exact hend h1
     rw [if_neg (by omega),slices_BinarySearch_string_string.J2,decide_eq_false hno]
 rw [slices_BinarySearch_string_string.f,hsl]
 exact hloop k 0 es.length (by omega) (Nat.zero_le _) (Nat.le_refl _) (fun q hq h => by omega) (fun q hq h => by omega)
/-! ### a set -/
structure SI (p : Nat) (s : Sl) (xs : List Ky) (S : HS) : Prop where
 cell : S.heap p = .cells 1 [[s.hv]] true
 ov : OV S 1 s (xs.map row1)
 ne : ∀ q,s.a = some q → q.1 ≠ p
 hi : p < S.next
 srt : Srt xs
 cnt : xs.length ≤ 1000
theorem SI.lt {p : Nat} {s : Sl} {xs : List Ky} {S : HS} (h : SI p s xs S) {id : Nat} (ho : Own p s id) : id < S.next := by
 rcases ho with rfl | ⟨q,h1,rfl⟩
 ·exact h.hi
 ·exact h.ov.lt h1
theorem SI.keep {p : Nat} {s : Sl} {xs : List Ky} {S S' : HS} (h : SI p s xs S) (he : ∀ id,Own p s id → S'.heap id = S.heap id) (hn : S.next ≤ S'.next) : SI p s xs S' :=
 ⟨(he p (.inl rfl)).trans h.cell,h.ov.keep (fun q hq => he q.1 (.inr ⟨q,hq,rfl⟩)) hn,h.ne,Nat.lt_of_lt_of_le h.hi hn,h.srt,h.cnt⟩
theorem SI.fr {p : Nat} {s : Sl} {xs : List Ky} {S S' : HS} (h : SI p s xs S) (hf : Fr S.next S S') : SI p s xs S' := h.keep (fun id ho => hf.eq id (h.lt ho)) hf.le
theorem SI.ld {p : Nat} {s : Sl} {xs : List Ky} {S : HS} (h : SI p s xs S) : S.ldSl (HA.fld (HA.cell0 p) 0) = some s := row_ldSl (cell_row h.cell) rfl rfl
theorem SI.slen {p : Nat} {s : Sl} {xs : List Ky} {S : HS} (h : SI p s xs S) : (s.len : Int) = xs.length := by rw [h.ov.len]; simp
theorem set_put {p : Nat} {s s' : Sl} {S : HS} (h : S.heap p = .cells 1 [[s.hv]] true) : S.sets (HA.fld (HA.cell0 p) 0) [s'.hv] = some (S.put p (.cells 1 [[s'.hv]] true)) := (sets_row h rfl (by simp)).trans rfl
theorem ins_spec {p : Nat} {s : Sl} {xs : List Ky} {S : HS} (h : SI p s xs S) {t : Ky} {i : Nat} (hp : PosOf xs t i) (hno : t ∉ xs) (hroom : xs.length < 1000) :
  ∃ s' S' S1,slices_Insert_string_string_w.f s (i : Int) (S.lit [[.str t]] 1).1 (S.lit [[.str t]] 1).2 = some (s',S1) ∧ S1.sets (HA.fld (HA.cell0 p) 0) [s'.hv] = some S' ∧ SI p s' (xs.take i ++ [t] ++ xs.drop i) S' ∧ Only p s s' S S' := by
 obtain ⟨s',S1,a1,a2,a3,a4,a5⟩ := ins_ov (row := row1 t) h.ov (i := i) (by simpa using hp.le) (by simp; omega)
 have hcell : S1.heap p = .cells 1 [[s.hv]] true := by rw [a4 p h.hi h.ne]; exact h.cell
 have hne' : ∀ q,s'.a = some q → q.1 ≠ p := fun q hq => by have := a5 q hq; have := h.hi; omega
 refine ⟨s',_,S1,a1,set_put hcell,⟨put_here _ _ _,?_,hne',Nat.lt_of_lt_of_le h.hi a3,ins_srt hp h.srt hno,by simp; omega⟩,⟨by rw [put_next]; exact a3,fun id g1 g2 => ?_,fun id ho => ?_⟩⟩
 ·have hm : (xs.take i ++ [t] ++ xs.drop i).map row1 = (xs.map row1).take i ++ [row1 t] ++ (xs.map row1).drop i := by simp only [List.map_append,List.map_take,List.map_drop,List.map_cons,List.map_nil]
  rw [hm]
  exact a2.keep (fun q hq => put_other _ (hne' q hq)) (Nat.le_refl _)
 ·rw [put_other _ (fun e => g2 (.inl e))]
  exact a4 id g1 (fun q hq e => g2 (.inr ⟨q,hq,e⟩))
 ·rcases ho with g | ⟨q,g1,g2⟩
  ·exact .inl (.inl g)
  ·right; rw [← g2]; exact a5 q g1
theorem del_spec {p : Nat} {s : Sl} {xs : List Ky} {S : HS} (h : SI p s xs S) {i : Nat} (hi : i < xs.length) :
  ∃ s' S' S1,slices_Delete_string_string_w.f s (i : Int) ((i + 1 : Nat) : Int) S = some (s',S1) ∧ S1.sets (HA.fld (HA.cell0 p) 0) [s'.hv] = some S' ∧ SI p s' (xs.eraseIdx i) S' ∧ Only p s s' S S' := by
 have hcnt := h.cnt
 obtain ⟨s',S1,a1,a2,a3,a4,a5⟩ := del_ov h.ov (i := i) (by simpa using hi) (by simp; omega)
 have hcell : S1.heap p = .cells 1 [[s.hv]] true := by rw [a4 p h.hi h.ne]; exact h.cell
 have hne' : ∀ q,s'.a = some q → q.1 ≠ p := fun q hq => by have := a5 q hq; have := h.hi; omega
 refine ⟨s',_,S1,a1,set_put hcell,⟨put_here _ _ _,?_,hne',Nat.lt_of_lt_of_le h.hi a3,erase_srt h.srt i,by rw [List.length_eraseIdx,if_pos hi]; omega⟩,⟨by rw [put_next]; exact a3,fun id g1 g2 => ?_,fun id ho => ?_⟩⟩
 ·rw [Go.ChangeMaps.map_eraseIdx]
  exact a2.keep (fun q hq => put_other _ (hne' q hq)) (Nat.le_refl _)
 ·rw [put_other _ (fun e => g2 (.inl e))]
  exact a4 id g1 (fun q hq e => g2 (.inr ⟨q,hq,e⟩))
 ·rcases ho with g | ⟨q,g1,g2⟩
  ·exact .inl (.inl g)
  ·right; rw [← g2]; exact a5 q g1
theorem add_spec {k p : Nat} {s sl : Sl} {xs ls : List Ky} {S : HS} (hk : 2000 ≤ k) (h : SI p s xs S) (hr : S.rows sl 1 = some (ls.map row1)) (hlt : ∀ q,sl.a = some q → q.1 < S.next ∧ ¬ Own p s q.1) (hc : xs.length + ls.length ≤ 1000) :
  ∃ s' xs' S',set_Set_string_Add.f k (some (HA.cell0 p)) sl S = some ((xs'.length : Int) - xs.length,S') ∧ SI p s' xs' S' ∧ Only p s s' S S' ∧ (∀ v,v ∈ xs' ↔ v ∈ xs ∨ v ∈ ls) ∧ xs.length ≤ xs'.length ∧ xs'.length ≤ xs.length + ls.length := by
 have hsl : (sl.len : Int) = ls.length := by rw [← rows_len hr]; simp
 have hloop : ∀ (f i : Nat) (T : HS) (s1 : Sl) (ys : List Ky),ls.length - i < f → i ≤ ls.length → SI p s1 ys T → Only p s s1 S T → (∀ v,v ∈ ys ↔ v ∈ xs ∨ v ∈ ls.take i) → xs.length ≤ ys.length → ys.length ≤ xs.length + i →
   ∃ s' xs' S',set_Set_string_Add.L0 k f (some (HA.cell0 p)) ((ys.length : Int) - xs.length) sl (ls.length : Int) (i : Int) T = some ((xs'.length : Int) - xs.length,S') ∧ SI p s' xs' S' ∧ Only p s s' S S' ∧ (∀ v,v ∈ xs' ↔ v ∈ xs ∨ v ∈ ls) ∧ xs.length ≤ xs'.length ∧ xs'.length ≤ xs.length + ls.length := by
  intro f
  induction f with
  | zero => intro i T s1 ys h; omega
  | succ f ih =>
   intro i T s1 ys hf hi hT hO hm hge hle
   have hrT : T.rows sl 1 = some (ls.map row1) := rows_keep hr fun q hq => hO.eq q.1 (hlt q hq).1 (hlt q hq).2
   rw [set_Set_string_Add.L0]
   by_cases hil : i < ls.length
   ·obtain ⟨ad,a1,a2⟩ := ldK_at hrT hil
    obtain ⟨j,b1,hp⟩ := bs_spec (t := ls[i]) hk hT.srt hT.cnt hT.ov.rows
    have hmem : ∀ v,(v ∈ ls.take (i + 1) ↔ v ∈ ls.take i ∨ v = ls[i]) := fun v => by rw [List.take_succ_eq_append_getElem hil,List.mem_append,List.mem_singleton]
    rw [if_pos (by omega),a1,Option.bind_some,a2,Option.bind_some,Option.bind_some,hT.ld,Option.bind_some,b1,Option.bind_some]
    simp only
    by_cases hin : ls[i] ∈ ys
    ·rw [decide_eq_true hin,if_neg (by simp),set_Set_string_Add.J1,w64_id (by omega) (by omega),show ((i : Int) + 1) = ((i + 1 : Nat) : Int) by simp]
     refine ih (i + 1) T s1 ys (by omega) (by omega) hT hO (fun v => ?_) hge (by omega)
     rw [hmem,← or_assoc,← hm]
     exact ⟨fun h => .inl h,fun h => h.elim id (fun e => e ▸ hin)⟩
    ·obtain ⟨s2,T2,T1,c1,c2,c3,c4⟩ := ins_spec hT hp hin (by omega)
     have hlen : (ys.take j ++ [ls[i]] ++ ys.drop j).length = ys.length + 1 := by
      have := hp.le
      simp only [List.length_append,List.length_take,List.length_drop,List.length_singleton]; omega
     rw [decide_eq_false hin,if_pos (by simp),Option.bind_some,hT.ld,Option.bind_some,letv,c1,Option.bind_some,Option.bind_some,c2,Option.bind_some,set_Set_string_Add.J1,w64_id (n := (i : Int) + 1) (by omega) (by omega),show ((i : Int) + 1) = ((i + 1 : Nat) : Int) by simp,w64_id (by omega) (by omega)]
     have e : (ys.length : Int) - xs.length + 1 = ((ys.take j ++ [ls[i]] ++ ys.drop j).length : Int) - xs.length := by rw [hlen]; omega
     rw [e]
     refine ih (i + 1) T2 s2 _ (by omega) (by omega) c3 (hO.trans c4) (fun v => ?_) (by omega) (by omega)
     rw [ins_mem,hmem,← or_assoc,← hm]
   ·obtain rfl : i = ls.length := by omega
    rw [if_neg (by omega)]
    rw [List.take_length] at hm
    exact ⟨s1,ys,T,rfl,hT,hO,hm,hge,hle⟩
 rw [set_Set_string_Add.f,if_neg (by simp),hsl]
 have := hloop k 0 S s xs (by omega) (Nat.zero_le _) h (Only.refl _ _ _) (fun v => by simp) (Nat.le_refl _) (by omega)
 rw [show ((xs.length : Int) - xs.length) = 0 by omega] at this
 exact this
theorem remove_spec {k p : Nat} {s sl : Sl} {xs ls : List Ky} {S : HS} (hk : 2000 ≤ k) (h : SI p s xs S) (hr : S.rows sl 1 = some (ls.map row1)) (hlt : ∀ q,sl.a = some q → q.1 < S.next ∧ ¬ Own p s q.1) (hc : ls.length ≤ 1000) :
  ∃ s' xs' S',set_Set_string_Remove.f k (some (HA.cell0 p)) sl S = some ((xs.length : Int) - xs'.length,S') ∧ SI p s' xs' S' ∧ Only p s s' S S' ∧ (∀ v,v ∈ xs' ↔ v ∈ xs ∧ v ∉ ls) ∧ xs'.length ≤ xs.length := by
 have hsl : (sl.len : Int) = ls.length := by rw [← rows_len hr]; simp
 have hcnt := h.cnt
 have hloop : ∀ (f i : Nat) (T : HS) (s1 : Sl) (ys : List Ky),ls.length - i < f → i ≤ ls.length → SI p s1 ys T → Only p s s1 S T → (∀ v,v ∈ ys ↔ v ∈ xs ∧ v ∉ ls.take i) → ys.length ≤ xs.length →
   ∃ s' xs' S',set_Set_string_Remove.L0 k f (some (HA.cell0 p)) ((xs.length : Int) - ys.length) sl (ls.length : Int) (i : Int) T = some ((xs.length : Int) - xs'.length,S') ∧ SI p s' xs' S' ∧ Only p s s' S S' ∧ (∀ v,v ∈ xs' ↔ v ∈ xs ∧ v ∉ ls) ∧ xs'.length ≤ xs.length := by
  intro f
  induction f with
  | zero => intro i T s1 ys h; omega
  | succ f ih =>
   intro i T s1 ys hf hi hT hO hm hle
   have hrT : T.rows sl 1 = some (ls.map row1) := rows_keep hr fun q hq => hO.eq q.1 (hlt q hq).1 (hlt q hq).2
   rw [set_Set_string_Remove.L0]
   by_cases hil : i < ls.length
   ·obtain ⟨ad,a1,a2⟩ := ldK_at hrT hil
    obtain ⟨j,b1,hp⟩ := bs_spec (t := ls[i]) hk hT.srt hT.cnt hT.ov.rows
    have hmem : ∀ v,(v ∉ ls.take (i + 1) ↔ v ∉ ls.take i ∧ v ≠ ls[i]) := fun v => by rw [List.take_succ_eq_append_getElem hil,List.mem_append,List.mem_singleton,not_or]
    rw [if_pos (by omega),a1,Option.bind_some,a2,Option.bind_some,Option.bind_some,hT.ld,Option.bind_some,b1,Option.bind_some]
    simp only
    by_cases hin : ls[i] ∈ ys
    ·obtain ⟨hj,he⟩ := hp.here hT.srt hin
     obtain ⟨s2,T2,T1,c1,c2,c3,c4⟩ := del_spec hT hj
     have hlen : (ys.eraseIdx j).length = ys.length - 1 := by rw [List.length_eraseIdx,if_pos hj]
     rw [decide_eq_true hin,if_pos rfl,Option.bind_some,hT.ld,Option.bind_some,w64_id (n := (j : Int) + 1) (by omega) (by omega),show ((j : Int) + 1) = ((j + 1 : Nat) : Int) by simp,c1,Option.bind_some,Option.bind_some,c2,Option.bind_some,set_Set_string_Remove.J1,w64_id (n := (i : Int) + 1) (by omega) (by omega),show ((i : Int) + 1) = ((i + 1 : Nat) : Int) by simp,w64_id (by omega) (by omega)]
     have e : (xs.length : Int) - ys.length + 1 = (xs.length : Int) - ((ys.eraseIdx j).length : Int) := by rw [hlen]; omega
     rw [e]
     refine ih (i + 1) T2 s2 _ (by omega) (by omega) c3 (hO.trans c4) (fun v => ?_) (by omega)
     rw [erase_mem hT.srt hj,hmem,← and_assoc,← hm,he]
    ·rw [decide_eq_false hin,if_neg (by simp),set_Set_string_Remove.J1,w64_id (by omega) (by omega),show ((i : Int) + 1) = ((i + 1 : Nat) : Int) by simp]
     refine ih (i + 1) T s1 ys (by omega) (by omega) hT hO (fun v => ?_) hle
     rw [hmem,← and_assoc,← hm]
     exact ⟨fun h => ⟨h,fun e => hin (e ▸ h)⟩,fun h => h.1⟩
   ·obtain rfl : i = ls.length := by omega
    rw [if_neg (by omega)]
    rw [List.take_length] at hm
    exact ⟨s1,ys,T,rfl,hT,hO,hm,hle⟩
 rw [set_Set_string_Remove.f,if_neg (by simp),hsl]
 have := hloop k 0 S s xs (by omega) (Nat.zero_le _) h (Only.refl _ _ _) (fun v => by simp) (Nat.le_refl _)
 rw [show ((xs.length : Int) - xs.length) = 0 by omega] at this
 exact this
theorem len_spec {p : Nat} {s : Sl} {xs : List Ky} {S : HS} (h : SI p s xs S) : set_Set_string_Len.f (some (HA.cell0 p)) S = some ((xs.length : Int),S) := by
 rw [set_Set_string_Len.f,if_neg (by simp),Option.bind_some,h.ld,Option.bind_some,h.slen]
theorem of_spec {k : Nat} {sl : Sl} {ls : List Ky} {S : HS} (hk : 2000 ≤ k) (hr : Rd S.next S 1 sl (ls.map row1)) (hc : ls.length ≤ 1000) :
  ∃ s' xs' S',set_Of_string.f k sl S = some (some (HA.cell0 S.next),S') ∧ SI S.next s' xs' S' ∧ Fr S.next S S' ∧ (∀ id,Own S.next s' id → S.next ≤ id) ∧ (∀ v,v ∈ xs' ↔ v ∈ ls) ∧ xs'.length ≤ ls.length := by
 have fn : Fr S.next S (S.new (.cells 1 [[Sl.nil.hv]] true)) := Fr.new (Nat.le_refl _) _
 have h0 : SI S.next Sl.nil [] (S.new (.cells 1 [[Sl.nil.hv]] true)) := ⟨new_here _ _,.inl ⟨rfl,rfl,rfl⟩,fun q hq => (by cases hq),Nat.lt_succ_self _,List.Pairwise.nil,by simp⟩
 have nn : (S.new (.cells 1 [[Sl.nil.hv]] true)).next = S.next + 1 := rfl
 obtain ⟨s',xs',S',e,g1,g2,g3,g4,g5⟩ := add_spec hk h0 (hr.frame fn (Nat.le_refl _)).rows (fun q hq => ⟨by have := hr.lt q hq; omega,fun ho => by
  rcases ho with g | ⟨q',g,_⟩
  ·have := hr.lt q hq; omega
  ·cases g⟩) (by simpa using hc)
 rw [set_Of_string.f,letv,e,Option.bind_some]
 refine ⟨s',xs',S',rfl,g1,⟨by have := g2.le; omega,fun id hid => ?_⟩,fun id ho => ?_,fun v => by rw [g3]; simp,by simpa using g5⟩
 ·rw [g2.eq id (by omega) (fun ho => by
   rcases ho with g | ⟨q',g,_⟩
   ·omega
   ·cases g)]
  exact fn.eq id hid
 ·rcases g2.own id ho with g | g
  ·rcases g with g | ⟨q',g,_⟩
   ·omega
   ·cases g
  ·omega
end KS
end Go.Proofs.YtcphapfclncggaaDoor.X
namespace Go.Proofs.YtcphapfclncggaaDoor.X
open Go.Proofs.YtcphapfclncggaaDoor.HL
set_option linter.unusedVariables false
namespace KI
theorem list_spec {p : Nat} {s : Sl} {xs : List Ky} {S : HS} (h : SI p s xs S) : ∃ s' S',set_Set_int_List.f (some (HA.cell0 p)) S = some (s',S') ∧ S'.rows s' 1 = some (xs.map row1) ∧ (∀ q,s'.a = some q → S.next ≤ q.1 ∧ q.1 < S'.next) ∧ Fr S.next S S' := by
 rw [set_Set_int_List.f,if_neg (by simp),Option.bind_some,h.ld,Option.bind_some,slices_Clone_int_int.f]
 by_cases ha : s.a.isNone = true
 ·rw [if_pos ha,Option.bind_some]
  refine ⟨_,S,rfl,?_,fun q hq => (by cases hq),Fr.refl _ _⟩
  rw [h.ov.none (by simpa using ha)]; rfl
 ·have hcnt := h.cnt
  rw [if_neg ha,letv]
  have hl := Vec.lit (n := S.next) (z := 1) (S := S) [] (Nat.le_refl _)
  have hr' : (S.lit [] 1).2.rows s 1 = some (xs.map row1) := (h.ov.rd.frame (lit_fr [] (Nat.le_refl _)) (Nat.le_refl _)).rows
  obtain ⟨s',S1,e1,v1,f1⟩ := hl.app (new := xs.map row1) (Nat.le_succ _) (by simp; omega)
  rw [hr',Option.bind_some,e1,Option.bind_some,Option.bind_some]
  rw [List.nil_append] at v1
  exact ⟨s',S1,rfl,v1.rows,v1.lo,(lit_fr [] (Nat.le_refl _)).trans f1⟩
theorem values_tells {k n c : Nat} {B : HS} {s : Sl} {xs : List Ky} (hk : xs.length < k) (hx : xs.length ≤ 1000000) (hc : B.heap c = .cells 1 [[s.hv]] true) (hr : B.rows s 1 = some (xs.map row1)) (K : Nat → Prop) (hK : K c ∧ ∀ q,s.a = some q → K q.1) :
  Tells (disp k (n + 2)) (.fn (.func 102) [] [.ptr (some (HA.cell0 c))]) (xs.map row1) K B := by
 intro H l I Stop ht O S hI hB
 have hlen : (xs.map row1).length = xs.length := by simp
 have hcS : S.heap c = .cells 1 [[s.hv]] true := (hB c hK.1).1.trans hc
 have hrS : S.rows s 1 = some (xs.map row1) := rows_keep hr fun q hq => (hB q.1 (hK.2 q hq)).1
 have hloop : ∀ f i O1 T,xs.length - i < f → i ≤ xs.length → I i O1 T → S.next ≤ T.next → (∀ id,id < S.next → ¬ O id → T.heap id = S.heap id) → (∀ id,O1 id → O id ∨ S.next ≤ id) →
   ∃ S' O',slices_Values_int_int_1.L0 (disp k (n + 1)) H k f (.fn (.yield l) [] []) s (xs.length : Int) (i : Int) T = some ((),S') ∧ S.next ≤ S'.next ∧ (∀ id,id < S.next → ¬ O id → S'.heap id = S.heap id) ∧ (∀ id,O' id → O id ∨ S.next ≤ id) ∧ (I xs.length O' S' ∨ Stop O' S') := by
  intro f
  induction f with
  | zero => intro i O1 T h; omega
  | succ f ih =>
   intro i O1 T hf hi hIT hn hk2 hO
   rw [slices_Values_int_int_1.L0]
   by_cases hlt : i < xs.length
   ·have hrT : T.rows s 1 = some (xs.map row1) := rows_keep hrS fun q hq => hk2 q.1 (hB q.1 (hK.2 q hq)).2.2 (hB q.1 (hK.2 q hq)).2.1
    obtain ⟨ad,a1,a2⟩ := ldK_at hrT hlt
    obtain ⟨b,T2,O2,e2,n2,k2,o2,g1,g2⟩ := ht.step i (by omega) O1 T hIT
    have he : disp k (n + 1) H (.fn (.yield l) [] []) [.int .i64 xs[i]] T = some (.bool b,T2) := by
     rw [disp_yield,← e2,List.getElem_map]; rfl
    have hk3 : ∀ id,id < S.next → ¬ O id → T2.heap id = S.heap id := fun id h1 h2 => (k2 id (by omega) (fun ho => (hO id ho).elim h2 (fun h => by omega))).trans (hk2 id h1 h2)
    have hO3 : ∀ id,O2 id → O id ∨ S.next ≤ id := fun id h => (o2 id h).elim (hO id) (fun h => .inr (by omega))
    rw [if_pos (by omega),a1,Option.bind_some,a2,Option.bind_some,he,Option.bind_some]
    simp only [dB,Option.bind_some]
    cases b with
    | false => exact ⟨T2,O2,rfl,by omega,hk3,hO3,.inr (g2 rfl)⟩
    | true =>
     rw [if_neg (by simp),w64_id (by omega) (by omega),show ((i : Int) + 1) = ((i + 1 : Nat) : Int) by simp]
     exact ih (i + 1) O2 T2 (by omega) (by omega) (g1 rfl) (by omega) hk3 hO3
   ·obtain rfl : i = xs.length := by omega
    rw [if_neg (by omega)]
    exact ⟨T,O1,rfl,hn,hk2,hO,.inl hIT⟩
 obtain ⟨S',O',e,h1,h2,h3,h4⟩ := hloop k 0 O S (by omega) (Nat.zero_le _) hI (Nat.le_refl _) (fun _ _ _ => rfl) (fun _ h => .inl h)
 refine ⟨S',O',?_,h1,h2,h3,by rw [hlen]; exact h4⟩
 rw [disp_func]
 have hsl : (s.len : Int) = xs.length := by rw [← rows_len hrS]; simp
 have e' : call_102 (disp k (n + 1)) H k ([] ++ [HV.fn (.yield l) [] []] ++ [.ptr (some (HA.cell0 c))]) S = some (.tup [],S') := by
  rw [call_102]
  simp only [List.nil_append,List.cons_append,args2,Option.bind_some,dF,dP]
  rw [slices_Values_int_int_1.f,Option.bind_some,ldSl_cell hcS,Option.bind_some,hsl]
  erw [e]
  rfl
 repeat rw [if_neg (by decide)]
 rw [if_pos rfl,e']
theorem all_spec {p : Nat} {s : Sl} {xs : List Ky} {S : HS} (h : SI p s xs S) : ∃ c s' S',set_Set_int_All.f (some (HA.cell0 p)) S = some (.fn (.func 102) [] [.ptr (some (HA.cell0 c))],S') ∧ S'.heap c = .cells 1 [[s'.hv]] true ∧ S'.rows s' 1 = some (xs.map row1) ∧ (S.next ≤ c ∧ c < S'.next) ∧ (∀ q,s'.a = some q → S.next ≤ q.1 ∧ q.1 < S'.next) ∧ Fr S.next S S' := by
 obtain ⟨s',S1,e1,r1,q1,f1⟩ := list_spec h
 rw [set_Set_int_All.f,e1,Option.bind_some,slices_Values_int_int.f,letv,Option.bind_some]
 have hrd : Rd S1.next S1 1 s' (xs.map row1) := ⟨r1,fun q hq => (q1 q hq).2⟩
 exact ⟨S1.next,s',_,rfl,new_here _ _,(hrd.frame (Fr.new (Nat.le_refl _) _) (Nat.le_refl _)).rows,⟨f1.le,Nat.lt_succ_self _⟩,fun q hq => ⟨(q1 q hq).1,Nat.lt_succ_of_lt (q1 q hq).2⟩,f1.trans (Fr.new f1.le _)⟩
/-- One thing more, behind a slice that one alone holds. -/
theorem app1_spec {n : Nat} {S : HS} {s : Sl} {xs : List Ky} (t : Ky) (h : Vec n S 1 s (xs.map row1)) (hn : n ≤ S.next) (hl : xs.length < 1000000) :
  ∃ s' S',HS.app (S.lit [[.int .i64 t]] 1).2 s [[.int .i64 t]] 1 = some (s',S') ∧ (S.lit [[.int .i64 t]] 1).2.rows (S.lit [[.int .i64 t]] 1).1 1 = some [[.int .i64 t]] ∧ Vec n S' 1 s' ((xs ++ [t]).map row1) ∧ Fr n S S' ∧ (∀ id,id < S.next → (∀ q,s.a = some q → q.1 ≠ id) → S'.heap id = S.heap id) ∧ (∀ q,s'.a = some q → S.next ≤ q.1 ∨ ∃ q0,s.a = some q0 ∧ q0.1 = q.1) := by
 have fl : Fr S.next S (S.lit [[.int .i64 t]] 1).2 := lit_fr _ (Nat.le_refl _)
 have nl : (S.lit [[.int .i64 t]] 1).2.next = S.next + 1 := rfl
 obtain ⟨s',S',e1,v1,f1,k1,q1⟩ := (h.frame fl (Nat.le_refl _)).app2 (new := [[.int .i64 t]]) (by omega) (by simp; omega)
 refine ⟨s',S',e1,(Vec.lit (n := 0) (z := 1) (S := S) _ (Nat.zero_le _)).rows,by rw [List.map_append]; exact v1,(fl.mono hn).trans f1,fun id h1 h2 => (k1 id (by omega) h2).trans (fl.eq id h1),fun q hq => ?_⟩
 rcases q1 q hq with g | g
 ·exact .inl (by omega)
 ·exact .inr g
end KI
end Go.Proofs.YtcphapfclncggaaDoor.X
namespace Go.Proofs.YtcphapfclncggaaDoor.X
open Go.Proofs.YtcphapfclncggaaDoor.HL
set_option linter.unusedVariables false
namespace KS
theorem has_spec {k p : Nat} {s : Sl} {xs : List Ky} {S : HS} (hk : 2000 ≤ k) (h : SI p s xs S) (t : Ky) : set_Set_string_Has.f k (some (HA.cell0 p)) t S = some (decide (t ∈ xs),S) := by
 obtain ⟨j,b1,hp⟩ := bs_spec (t := t) hk h.srt h.cnt h.ov.rows
 rw [set_Set_string_Has.f,if_neg (by simp),Option.bind_some,h.ld,Option.bind_some,b1,Option.bind_some]
theorem list_spec {p : Nat} {s : Sl} {xs : List Ky} {S : HS} (h : SI p s xs S) : ∃ s' S',set_Set_string_List.f (some (HA.cell0 p)) S = some (s',S') ∧ S'.rows s' 1 = some (xs.map row1) ∧ (∀ q,s'.a = some q → S.next ≤ q.1 ∧ q.1 < S'.next) ∧ Fr S.next S S' := by
 rw [set_Set_string_List.f,if_neg (by simp),Option.bind_some,h.ld,Option.bind_some,slices_Clone_string_string.f]
 by_cases ha : s.a.isNone = true
 ·rw [if_pos ha,Option.bind_some]
  refine ⟨_,S,rfl,?_,fun q hq => (by cases hq),Fr.refl _ _⟩
  rw [h.ov.none (by simpa using ha)]; rfl
 ·have hcnt := h.cnt
  rw [if_neg ha,letv]
  have hl := Vec.lit (n := S.next) (z := 1) (S := S) [] (Nat.le_refl _)
  have hr' : (S.lit [] 1).2.rows s 1 = some (xs.map row1) := (h.ov.rd.frame (lit_fr [] (Nat.le_refl _)) (Nat.le_refl _)).rows
  obtain ⟨s',S1,e1,v1,f1⟩ := hl.app (new := xs.map row1) (Nat.le_succ _) (by simp; omega)
  rw [hr',Option.bind_some,e1,Option.bind_some,Option.bind_some]
  rw [List.nil_append] at v1
  exact ⟨s',S1,rfl,v1.rows,v1.lo,(lit_fr [] (Nat.le_refl _)).trans f1⟩
theorem values_tells {k n c : Nat} {B : HS} {s : Sl} {xs : List Ky} (hk : xs.length < k) (hx : xs.length ≤ 1000000) (hc : B.heap c = .cells 1 [[s.hv]] true) (hr : B.rows s 1 = some (xs.map row1)) (K : Nat → Prop) (hK : K c ∧ ∀ q,s.a = some q → K q.1) :
  Tells (disp k (n + 2)) (.fn (.func 105) [] [.ptr (some (HA.cell0 c))]) (xs.map row1) K B := by
 intro H l I Stop ht O S hI hB
 have hlen : (xs.map row1).length = xs.length := by simp
 have hcS : S.heap c = .cells 1 [[s.hv]] true := (hB c hK.1).1.trans hc
 have hrS : S.rows s 1 = some (xs.map row1) := rows_keep hr fun q hq => (hB q.1 (hK.2 q hq)).1
 have hloop : ∀ f i O1 T,xs.length - i < f → i ≤ xs.length → I i O1 T → S.next ≤ T.next → (∀ id,id < S.next → ¬ O id → T.heap id = S.heap id) → (∀ id,O1 id → O id ∨ S.next ≤ id) →
   ∃ S' O',slices_Values_string_string_1.L0 (disp k (n + 1)) H k f (.fn (.yield l) [] []) s (xs.length : Int) (i : Int) T = some ((),S') ∧ S.next ≤ S'.next ∧ (∀ id,id < S.next → ¬ O id → S'.heap id = S.heap id) ∧ (∀ id,O' id → O id ∨ S.next ≤ id) ∧ (I xs.length O' S' ∨ Stop O' S') := by
  intro f
  induction f with
  | zero => intro i O1 T h; omega
  | succ f ih =>
   intro i O1 T hf hi hIT hn hk2 hO
   rw [slices_Values_string_string_1.L0]
   by_cases hlt : i < xs.length
   ·have hrT : T.rows s 1 = some (xs.map row1) := rows_keep hrS fun q hq => hk2 q.1 (hB q.1 (hK.2 q hq)).2.2 (hB q.1 (hK.2 q hq)).2.1
    obtain ⟨ad,a1,a2⟩ := ldK_at hrT hlt
    obtain ⟨b,T2,O2,e2,n2,k2,o2,g1,g2⟩ := ht.step i (by omega) O1 T hIT
    have he : disp k (n + 1) H (.fn (.yield l) [] []) [.str xs[i]] T = some (.bool b,T2) := by
     rw [disp_yield,← e2,List.getElem_map]; rfl
    have hk3 : ∀ id,id < S.next → ¬ O id → T2.heap id = S.heap id := fun id h1 h2 => (k2 id (by omega) (fun ho => (hO id ho).elim h2 (fun h => by omega))).trans (hk2 id h1 h2)
    have hO3 : ∀ id,O2 id → O id ∨ S.next ≤ id := fun id h => (o2 id h).elim (hO id) (fun h => .inr (by omega))
    rw [if_pos (by omega),a1,Option.bind_some,a2,Option.bind_some,he,Option.bind_some]
    simp only [dB,Option.bind_some]
    cases b with
    | false => exact ⟨T2,O2,rfl,by omega,hk3,hO3,.inr (g2 rfl)⟩
    | true =>
     rw [if_neg (by simp),w64_id (by omega) (by omega),show ((i : Int) + 1) = ((i + 1 : Nat) : Int) by simp]
     exact ih (i + 1) O2 T2 (by omega) (by omega) (g1 rfl) (by omega) hk3 hO3
   ·obtain rfl : i = xs.length := by omega
    rw [if_neg (by omega)]
    exact ⟨T,O1,rfl,hn,hk2,hO,.inl hIT⟩
 obtain ⟨S',O',e,h1,h2,h3,h4⟩ := hloop k 0 O S (by omega) (Nat.zero_le _) hI (Nat.le_refl _) (fun _ _ _ => rfl) (fun _ h => .inl h)
 refine ⟨S',O',?_,h1,h2,h3,by rw [hlen]; exact h4⟩
 rw [disp_func]
 have hsl : (s.len : Int) = xs.length := by rw [← rows_len hrS]; simp
 have e' : call_105 (disp k (n + 1)) H k ([] ++ [HV.fn (.yield l) [] []] ++ [.ptr (some (HA.cell0 c))]) S = some (.tup [],S') := by
  rw [call_105]
  simp only [List.nil_append,List.cons_append,args2,Option.bind_some,dF,dP]
  rw [slices_Values_string_string_1.f,Option.bind_some,ldSl_cell hcS,Option.bind_some,hsl]
  erw [e]
  rfl
 repeat rw [if_neg (by decide)]
 rw [if_pos rfl,e']
theorem all_spec {p : Nat} {s : Sl} {xs : List Ky} {S : HS} (h : SI p s xs S) : ∃ c s' S',set_Set_string_All.f (some (HA.cell0 p)) S = some (.fn (.func 105) [] [.ptr (some (HA.cell0 c))],S') ∧ S'.heap c = .cells 1 [[s'.hv]] true ∧ S'.rows s' 1 = some (xs.map row1) ∧ (S.next ≤ c ∧ c < S'.next) ∧ (∀ q,s'.a = some q → S.next ≤ q.1 ∧ q.1 < S'.next) ∧ Fr S.next S S' := by
 obtain ⟨s',S1,e1,r1,q1,f1⟩ := list_spec h
 rw [set_Set_string_All.f,e1,Option.bind_some,slices_Values_string_string.f,letv,Option.bind_some]
 have hrd : Rd S1.next S1 1 s' (xs.map row1) := ⟨r1,fun q hq => (q1 q hq).2⟩
 exact ⟨S1.next,s',_,rfl,new_here _ _,(hrd.frame (Fr.new (Nat.le_refl _) _) (Nat.le_refl _)).rows,⟨f1.le,Nat.lt_succ_self _⟩,fun q hq => ⟨(q1 q hq).1,Nat.lt_succ_of_lt (q1 q hq).2⟩,f1.trans (Fr.new f1.le _)⟩
/-- One thing more, behind a slice that one alone holds. -/
theorem app1_spec {n : Nat} {S : HS} {s : Sl} {xs : List Ky} (t : Ky) (h : Vec n S 1 s (xs.map row1)) (hn : n ≤ S.next) (hl : xs.length < 1000000) :
  ∃ s' S',HS.app (S.lit [[.str t]] 1).2 s [[.str t]] 1 = some (s',S') ∧ (S.lit [[.str t]] 1).2.rows (S.lit [[.str t]] 1).1 1 = some [[.str t]] ∧ Vec n S' 1 s' ((xs ++ [t]).map row1) ∧ Fr n S S' ∧ (∀ id,id < S.next → (∀ q,s.a = some q → q.1 ≠ id) → S'.heap id = S.heap id) ∧ (∀ q,s'.a = some q → S.next ≤ q.1 ∨ ∃ q0,s.a = some q0 ∧ q0.1 = q.1) := by
 have fl : Fr S.next S (S.lit [[.str t]] 1).2 := lit_fr _ (Nat.le_refl _)
 have nl : (S.lit [[.str t]] 1).2.next = S.next + 1 := rfl
 obtain ⟨s',S',e1,v1,f1,k1,q1⟩ := (h.frame fl (Nat.le_refl _)).app2 (new := [[.str t]]) (by omega) (by simp; omega)
 refine ⟨s',S',e1,(Vec.lit (n := 0) (z := 1) (S := S) _ (Nat.zero_le _)).rows,by rw [List.map_append]; exact v1,(fl.mono hn).trans f1,fun id h1 h2 => (k1 id (by omega) h2).trans (fl.eq id h1),fun q hq => ?_⟩
 rcases q1 q hq with g | g
 ·exact .inl (by omega)
 ·exact .inr g
end KS
end Go.Proofs.YtcphapfclncggaaDoor.X
namespace Go.Proofs.YtcphapfclncggaaDoor.X
open Go.Proofs.YtcphapfclncggaaDoor.HL
set_option linter.unusedVariables false
namespace MA
abbrev Kk := KI.Ky
abbrev Vv := KS.Ky
structure En where
 key : Kk
 p : Nat
 s : Sl
 xs : List Vv
def ent (e : En) : HV × HV := (KI.kv e.key,.ptr (some (HA.cell0 e.p)))
theorem kSame_kv (a b : Kk) : kSame (KI.kv a) (KI.kv b) = some (a == b) := by simp [kSame,kSame1,KI.kv]
theorem mf_none {k : Kk} : ∀ {E : List En} (i : Nat),(∀ e ∈ E,e.key ≠ k) → mfind (KI.kv k) (E.map ent) i = some none := by
 intro E
 induction E with
 | nil => intro i _; rfl
 | cons e E ih =>
  intro i h
  rw [List.map_cons,mfind.eq_def]
  simp only [ent,kSame_kv,show (k == e.key) = false from beq_eq_false_iff_ne.2 (fun g => h e (by simp) g.symm)]
  exact ih (i + 1) fun x hx => h x (by simp [hx])
theorem mf_at {k : Kk} {e : En} {B : List En} (hk : e.key = k) : ∀ {A : List En} (i : Nat),(∀ a ∈ A,a.key ≠ k) → mfind (KI.kv k) ((A ++ e :: B).map ent) i = some (some (i + A.length,.ptr (some (HA.cell0 e.p)))) := by
 intro A
 induction A with
 | nil =>
  intro i _
  rw [List.nil_append,List.map_cons,mfind.eq_def]
  simp only [ent,kSame_kv,hk,beq_self_eq_true]
  rfl
 | cons a A ih =>
  intro i h
  rw [List.cons_append,List.map_cons,mfind.eq_def]
  simp only [ent,kSame_kv,show (k == a.key) = false from beq_eq_false_iff_ne.2 (fun g => h a (by simp) g.symm)]
  rw [ih (i + 1) fun x hx => h x (by simp [hx])]
  simp; omega
structure MS (m : Nat) (E : List En) (S : HS) : Prop where
 mp : S.heap m = .map (E.map ent)
 nd : E.Pairwise fun a b => a.key ≠ b.key
 si : ∀ e ∈ E,KS.SI e.p e.s e.xs S
 dis : E.Pairwise fun a b => ∀ id,Own a.p a.s id → ¬ Own b.p b.s id
 nm : ∀ e ∈ E,¬ Own e.p e.s m
 lt : m < S.next
def OM (m : Nat) (E : List En) (id : Nat) : Prop := id = m ∨ ∃ e ∈ E,Own e.p e.s id
def mem (E : List En) (k : Kk) (v : Vv) : Prop := ∃ e ∈ E,e.key = k ∧ v ∈ e.xs
theorem MS.ltO {m : Nat} {E : List En} {S : HS} (h : MS m E S) {id : Nat} (ho : OM m E id) : id < S.next := by
 rcases ho with rfl | ⟨e,he,ho⟩
 ·exact h.lt
 ·exact (h.si e he).lt ho
theorem MS.keep {m : Nat} {E : List En} {S S' : HS} (h : MS m E S) (hk : ∀ id,OM m E id → S'.heap id = S.heap id) (hn : S.next ≤ S'.next) : MS m E S' :=
 ⟨(hk m (.inl rfl)).trans h.mp,h.nd,fun e he => (h.si e he).keep (fun id ho => hk id (.inr ⟨e,he,ho⟩)) hn,h.dis,h.nm,Nat.lt_of_lt_of_le h.lt hn⟩
theorem MS.fr {m : Nat} {E : List En} {S S' : HS} (h : MS m E S) (hf : Fr S.next S S') : MS m E S' := h.keep (fun id ho => hf.eq id (h.ltO ho)) hf.le
theorem split_at {E : List En} {k : Kk} (hn : E.Pairwise fun a b => a.key ≠ b.key) {e : En} (he : e ∈ E) (hk : e.key = k) : ∃ A B,E = A ++ e :: B ∧ ∀ a ∈ A,a.key ≠ k := by
 obtain ⟨A,B,rfl⟩ := List.append_of_mem he
 refine ⟨A,B,rfl,fun a ha => ?_⟩
 rw [List.pairwise_append] at hn
 have := hn.2.2 a ha e (by simp)
 rw [← hk]; exact this
/-- What stands under a key. -/
theorem get_spec {m : Nat} {E : List En} {S : HS} (h : MS m E S) (k : Kk) : (S.look (some m) (KI.kv k) = some none ∧ ∀ e ∈ E,e.key ≠ k) ∨ ∃ A e B,E = A ++ e :: B ∧ e.key = k ∧ (∀ a ∈ A,a.key ≠ k) ∧ S.look (some m) (KI.kv k) = some (some (.ptr (some (HA.cell0 e.p)))) := by
 by_cases hx : ∃ e ∈ E,e.key = k
 ·obtain ⟨e,he,hk⟩ := hx
  obtain ⟨A,B,rfl,hA⟩ := split_at h.nd he hk
  refine .inr ⟨A,e,B,rfl,hk,hA,?_⟩
  rw [HS.look,HS.mp,h.mp,Option.bind_some,mf_at hk 0 hA]; rfl
 ·refine .inl ⟨?_,fun e he g => hx ⟨e,he,g⟩⟩
  rw [HS.look,HS.mp,h.mp,Option.bind_some,mf_none 0 fun e he g => hx ⟨e,he,g⟩]; rfl
/-- One set is another now. -/
theorem MS.upd {m : Nat} {A B : List En} {e : En} {s' : Sl} {xs' : List Vv} {S S' : HS} (h : MS m (A ++ e :: B) S) (hs : KS.SI e.p s' xs' S') (ho : Only e.p e.s s' S S') :
  MS m (A ++ ⟨e.key,e.p,s',xs'⟩ :: B) S' ∧ Chg (OM m (A ++ e :: B)) (OM m (A ++ ⟨e.key,e.p,s',xs'⟩ :: B)) S S' := by
 have hle := ho.le
 have hd := h.dis
 rw [List.pairwise_append,List.pairwise_cons] at hd
 have hn := h.nd
 rw [List.pairwise_append,List.pairwise_cons] at hn
 have hso : ∀ id,Own e.p s' id → Own e.p e.s id ∨ S.next ≤ id := ho.own
 have hoth : ∀ a,a ∈ A ∨ a ∈ B → a ∈ A ++ e :: B ∧ ∀ id,Own a.p a.s id → ¬ Own e.p e.s id := fun a ha => by
  rcases ha with g | g
  ·exact ⟨by simp [g],fun id h1 h2 => hd.2.2 a g e (by simp) id h1 h2⟩
  ·exact ⟨by simp [g],fun id h1 h2 => hd.2.1.1 a g id h2 h1⟩
 have hnew : ∀ a,a ∈ A ∨ a ∈ B → ∀ id,Own a.p a.s id → ¬ Own e.p s' id := fun a ha id h1 h2 => by
  rcases hso id h2 with g | g
  ·exact (hoth a ha).2 id h1 g
  ·have := (h.si a (hoth a ha).1).lt h1; omega
 refine ⟨⟨?_,?_,fun x hx => ?_,?_,fun x hx => ?_,by have := h.lt; omega⟩,⟨hle,fun id h1 h2 => ho.eq id h1 fun g => h2 (.inr ⟨e,by simp,g⟩),fun id hid => ?_⟩⟩
 ·rw [ho.eq m h.lt (h.nm e (by simp)),h.mp]
  simp [ent]
 ·rw [List.pairwise_append,List.pairwise_cons]
  refine ⟨hn.1,⟨hn.2.1.1,hn.2.1.2⟩,fun a ha b hb => ?_⟩
  rcases List.mem_cons.1 hb with rfl | hb
  ·exact hn.2.2 a ha e (by simp)
  ·exact hn.2.2 a ha b (by simp [hb])
 ·rcases List.mem_append.1 hx with g | g
  ·exact (h.si x (by simp [g])).keep (fun id h1 => ho.eq id ((h.si x (by simp [g])).lt h1) ((hoth x (.inl g)).2 id h1)) hle
  ·rcases List.mem_cons.1 g with rfl | g
   ·exact hs
   ·exact (h.si x (by simp [g])).keep (fun id h1 => ho.eq id ((h.si x (by simp [g])).lt h1) ((hoth x (.inr g)).2 id h1)) hle
 ·rw [List.pairwise_append,List.pairwise_cons]
  refine ⟨hd.1,⟨fun b hb id h1 h2 => hnew b (.inr hb) id h2 h1,hd.2.1.2⟩,fun a ha b hb => ?_⟩
  rcases List.mem_cons.1 hb with rfl | hb
  ·exact hnew a (.inl ha)
  ·exact hd.2.2 a ha b (by simp [hb])
 ·rcases List.mem_append.1 hx with g | g
  ·exact h.nm x (by simp [g])
  ·rcases List.mem_cons.1 g with rfl | g
   ·intro g'
    rcases hso m g' with g2 | g2
    ·exact h.nm e (by simp) g2
    ·have := h.lt; omega
   ·exact h.nm x (by simp [g])
 ·rcases hid with rfl | ⟨x,hx,g⟩
  ·exact .inl (.inl rfl)
  ·rcases List.mem_append.1 hx with g' | g'
   ·exact .inl (.inr ⟨x,by simp [g'],g⟩)
   ·rcases List.mem_cons.1 g' with rfl | g'
    ·exact (hso id g).imp (fun q => .inr ⟨e,by simp,q⟩) id_
    ·exact .inl (.inr ⟨x,by simp [g'],g⟩)
where id_ {p : Prop} (h : p) : p := h
theorem j0_spec {k m : Nat} {A B : List En} {e : En} {v : Vv} {S : HS} (hk : 2000 ≤ k) (h : MS m (A ++ e :: B) S) (hA : ∀ a ∈ A,a.key ≠ e.key) (hc : e.xs.length < 1000) :
  ∃ s' xs' S',pair_put_int_string.J0 k (some m) e.key v S = some ((),S') ∧ MS m (A ++ ⟨e.key,e.p,s',xs'⟩ :: B) S' ∧ Chg (OM m (A ++ e :: B)) (OM m (A ++ ⟨e.key,e.p,s',xs'⟩ :: B)) S S' ∧ (∀ u,u ∈ xs' ↔ u ∈ e.xs ∨ u = v) ∧ xs'.length ≤ e.xs.length + 1 := by
 have he := h.si e (by simp)
 have hlk : S.look (some m) (KI.kv e.key) = some (some (.ptr (some (HA.cell0 e.p)))) := by
  rw [HS.look,HS.mp,h.mp,Option.bind_some,mf_at rfl 0 hA]; rfl
 have fl : Fr S.next S (S.lit [[.str v]] 1).2 := lit_fr _ (Nat.le_refl _)
 have nl : (S.lit [[.str v]] 1).2.next = S.next + 1 := rfl
 have rl : (S.lit [[.str v]] 1).2.rows (S.lit [[.str v]] 1).1 1 = some ([v].map KS.row1) := (Vec.lit (n := 0) (z := 1) (S := S) _ (Nat.zero_le _)).rows
 have ql : ∀ q,(S.lit [[.str v]] 1).1.a = some q → q.1 = S.next := fun q hq => by cases hq; rfl
 rw [pair_put_int_string.J0]
 erw [hlk]
 rw [Option.bind_some,show dP ((some (HV.ptr (some (HA.cell0 e.p)))).getD (.ptr none)) = some (some (HA.cell0 e.p)) from rfl,Option.bind_some,letv]
 generalize S.lit [[.str v]] 1 = P at fl nl rl ql ⊢
 obtain ⟨sl,S1⟩ := P
 simp only at fl nl rl ql ⊢
 have h1 := h.fr fl
 have he1 := he.fr fl
 obtain ⟨s',xs',S2,e2,i2,o2,m2,c2,c2'⟩ := KS.add_spec hk he1 rl (fun q hq => by
  have := ql q hq
  exact ⟨by omega,fun g => by have := he.lt g; omega⟩) (by simp; omega)
 obtain ⟨g1,g2⟩ := h1.upd i2 o2
 rw [e2,Option.bind_some]
 exact ⟨s',xs',S2,rfl,g1,(Chg.of_fr fl).trans g2,fun u => by rw [m2]; simp,by simpa using c2'⟩
theorem put_spec {k m n : Nat} {E : List En} {key : Kk} {v : Vv} {S : HS} (hk : 2000 ≤ k) (h : MS m E S) (hne : ∀ e ∈ E,e.xs ≠ []) (hc : ∀ e ∈ E,e.xs.length ≤ n) (hn : n < 1000) :
  ∃ E' S',pair_put_int_string.f k (some m) key v S = some ((),S') ∧ MS m E' S' ∧ Chg (OM m E) (OM m E') S S' ∧ (∀ k' v',mem E' k' v' ↔ mem E k' v' ∨ (k' = key ∧ v' = v)) ∧ (∀ e ∈ E',e.xs ≠ []) ∧ (∀ e ∈ E',e.xs.length ≤ n + 1) := by
 have hmem : ∀ (A B : List En) (e : En) (s' : Sl) (xs' : List Vv),e.key = key → (∀ u,u ∈ xs' ↔ u ∈ e.xs ∨ u = v) → ∀ k' v',mem (A ++ ⟨e.key,e.p,s',xs'⟩ :: B) k' v' ↔ mem (A ++ e :: B) k' v' ∨ (k' = key ∧ v' = v) := by
  intro A B e s' xs' hke hx k' v'
  constructor
  ·rintro ⟨x,hx1,hx2,hx3⟩
   rcases List.mem_append.1 hx1 with g | g
   ·exact .inl ⟨x,by simp [g],hx2,hx3⟩
   ·rcases List.mem_cons.1 g with rfl | g
    ·rcases (hx v').1 hx3 with g2 | g2
     ·exact .inl ⟨e,by simp,hx2,g2⟩
     ·exact .inr ⟨by rw [← hx2]; exact hke,g2⟩
    ·exact .inl ⟨x,by simp [g],hx2,hx3⟩
  ·rintro (⟨x,hx1,hx2,hx3⟩ | ⟨rfl,rfl⟩)
   ·rcases List.mem_append.1 hx1 with g | g
    ·exact ⟨x,by simp [g],hx2,hx3⟩
    ·rcases List.mem_cons.1 g with rfl | g
     ·exact ⟨⟨x.key,x.p,s',xs'⟩,by simp,hx2,(hx v').2 (.inl hx3)⟩
     ·exact ⟨x,by simp [g],hx2,hx3⟩
   ·exact ⟨⟨e.key,e.p,s',xs'⟩,by simp,hke,(hx _).2 (.inr rfl)⟩
 rw [pair_put_int_string.f]
 rcases get_spec h key with ⟨e1,hno⟩ | ⟨A,e,B,rfl,hke,hA,e1⟩
 ·obtain ⟨s,xs,S1,e2,i2,f2,o2,m2,c2⟩ := KS.of_spec (k := k) (sl := Sl.nil) (ls := []) (S := S) hk ⟨rfl,fun q hq => by cases hq⟩ (by simp)
  have hx : xs = [] := by simpa using c2
  subst hx
  have h1 := h.fr f2
  have le2 := f2.le
  have hput : S1.mput (some m) (KI.kv key) (.ptr (some (HA.cell0 S.next))) = some (S1.put m (.map ((E ++ [(⟨key,S.next,s,[]⟩ : En)]).map ent))) := by
   simp only [HS.mput,h1.mp]
   rw [mf_none 0 hno]
   simp [ent]
  erw [e1]
  rw [Option.bind_some,show dP ((none : Option HV).getD (.ptr none)) = some none from rfl,Option.bind_some,if_pos (by rfl),e2,Option.bind_some]
  erw [hput]
  rw [Option.bind_some]
  have hmO : ∀ id,Own S.next s id → id ≠ m := fun id g => by have := o2 id g; have := h.lt; omega
  have h2 : MS m (E ++ (⟨key,S.next,s,[]⟩ : En) :: []) (S1.put m (.map ((E ++ [(⟨key,S.next,s,[]⟩ : En)]).map ent))) := by
   refine ⟨put_here _ _ _,?_,fun x hx => ?_,?_,fun x hx => ?_,by rw [put_next]; have := h.lt; omega⟩
   ·rw [List.pairwise_append]
    exact ⟨h.nd,List.pairwise_singleton _ _,fun a ha b hb => by simp at hb; subst hb; exact hno a ha⟩
   ·rcases List.mem_append.1 hx with g | g
    ·exact (h1.si x g).keep (fun id ho => put_other _ (fun q => by subst q; exact h1.nm x g ho)) (Nat.le_refl _)
    ·simp at g; subst g; exact i2.keep (fun id ho => put_other _ (hmO id ho)) (Nat.le_refl _)
   ·rw [List.pairwise_append]
    refine ⟨h.dis,List.pairwise_singleton _ _,fun a ha b hb id g1 g2 => ?_⟩
    simp at hb; subst hb
    have := (h.si a ha).lt g1
    have := o2 id g2
    omega
   ·rcases List.mem_append.1 hx with g | g
    ·exact h.nm x g
    ·simp at g; subst g; exact fun ho => hmO m ho rfl
  have hch : Chg (OM m E) (OM m (E ++ (⟨key,S.next,s,[]⟩ : En) :: [])) S (S1.put m (.map ((E ++ [(⟨key,S.next,s,[]⟩ : En)]).map ent))) := by
   refine ⟨by rw [put_next]; omega,fun id g1 g2 => by rw [put_other _ (fun q => g2 (.inl q))]; exact f2.eq id g1,fun id ho => ?_⟩
   rcases ho with g | ⟨x,hx,g⟩
   ·exact .inl (.inl g)
   ·rcases List.mem_append.1 hx with g' | g'
    ·exact .inl (.inr ⟨x,g',g⟩)
    ·simp at g'; subst g'; exact .inr (o2 id g)
  obtain ⟨s',xs',S3,e3,g1,g2,g3,g4⟩ := j0_spec (v := v) hk h2 hno (by simp)
  refine ⟨_,S3,e3,g1,hch.trans g2,fun k' v' => ?_,fun x hx => ?_,fun x hx => ?_⟩
  ·rw [hmem E [] ⟨key,S.next,s,[]⟩ s' xs' rfl g3]
   have : mem (E ++ (⟨key,S.next,s,[]⟩ : En) :: []) k' v' ↔ mem E k' v' := by
    constructor
    ·rintro ⟨x,hx,q1,q2⟩
     rcases List.mem_append.1 hx with g | g
     ·exact ⟨x,g,q1,q2⟩
     ·simp at g; subst g; cases q2
    ·rintro ⟨x,hx,q1,q2⟩; exact ⟨x,by simp [hx],q1,q2⟩
   rw [this]
  ·rcases List.mem_append.1 hx with g | g
   ·exact hne x g
   ·simp at g; subst g
    intro q
    have := (g3 v).2 (.inr rfl)
    simp only at q
    rw [q] at this; cases this
  ·rcases List.mem_append.1 hx with g | g
   ·have := hc x g; omega
   ·simp at g; subst g; simp at g4; simp; omega
 ·subst hke
  obtain ⟨s',xs',S3,e3,g1,g2,g3,g4⟩ := j0_spec (v := v) hk h hA (by have := hc e (by simp); omega)
  erw [e1]
  rw [Option.bind_some,show dP ((some (HV.ptr (some (HA.cell0 e.p)))).getD (.ptr none)) = some (some (HA.cell0 e.p)) from rfl,Option.bind_some,if_neg (by simp),e3]
  refine ⟨_,S3,rfl,g1,g2,fun k' v' => hmem A B e s' xs' rfl g3 k' v',fun x hx => ?_,fun x hx => ?_⟩
  ·rcases List.mem_append.1 hx with g | g
   ·exact hne x (by simp [g])
   ·rcases List.mem_cons.1 g with rfl | g
    ·intro q
     have := (g3 v).2 (.inr rfl)
     simp only at q
     rw [q] at this; cases this
    ·exact hne x (by simp [g])
  ·rcases List.mem_append.1 hx with g | g
   ·have := hc x (by simp [g]); omega
   ·rcases List.mem_cons.1 g with rfl | g
    ·have := hc e (by simp); simp only; omega
    ·have := hc x (by simp [g]); omega
theorem MS.del {m : Nat} {A B : List En} {e : En} {S : HS} (h : MS m (A ++ e :: B) S) (hA : ∀ a ∈ A,a.key ≠ e.key) :
  ∃ S',S.mdel (some m) (KI.kv e.key) = some S' ∧ MS m (A ++ B) S' ∧ Chg (OM m (A ++ e :: B)) (OM m (A ++ B)) S S' := by
 have hd := h.dis
 rw [List.pairwise_append,List.pairwise_cons] at hd
 have hn := h.nd
 rw [List.pairwise_append,List.pairwise_cons] at hn
 have hsub : ∀ x,x ∈ A ++ B → x ∈ A ++ e :: B := fun x hx => by
  rcases List.mem_append.1 hx with g | g <;> simp [g]
 refine ⟨S.put m (.map ((A ++ B).map ent)),?_,⟨put_here _ _ _,?_,fun x hx => (h.si x (hsub x hx)).keep (fun id ho => put_other _ (fun q => by subst q; exact h.nm x (hsub x hx) ho)) (Nat.le_refl _),?_,fun x hx => h.nm x (hsub x hx),h.lt⟩,⟨Nat.le_refl _,fun id _ g2 => put_other _ (fun q => g2 (.inl q)),fun id ho => .inl ?_⟩⟩
 ·simp only [HS.mdel,h.mp]
  rw [mf_at rfl 0 hA]
  simp only [Option.map_some,Nat.zero_add]
  congr 3
  rw [List.map_append,List.eraseIdx_append_of_length_le (by simp)]
  simp
 ·rw [List.pairwise_append]; exact ⟨hn.1,hn.2.1.2,fun a ha b hb => hn.2.2 a ha b (by simp [hb])⟩
 ·rw [List.pairwise_append]; exact ⟨hd.1,hd.2.1.2,fun a ha b hb => hd.2.2 a ha b (by simp [hb])⟩
 ·rcases ho with g | ⟨x,hx,g⟩
  ·exact .inl g
  ·exact .inr ⟨x,hsub x hx,g⟩
theorem take_spec {k m n : Nat} {E : List En} {key : Kk} {v : Vv} {S : HS} (hk : 2000 ≤ k) (h : MS m E S) (hne : ∀ e ∈ E,e.xs ≠ []) (hc : ∀ e ∈ E,e.xs.length ≤ n) (hm : mem E key v) :
  ∃ E' S',pair_take_int_string.f k (some m) key v S = some ((),S') ∧ MS m E' S' ∧ Chg (OM m E) (OM m E') S S' ∧ (∀ k' v',mem E' k' v' ↔ mem E k' v' ∧ ¬ (k' = key ∧ v' = v)) ∧ (∀ e ∈ E',e.xs ≠ []) ∧ (∀ e ∈ E',e.xs.length ≤ n) := by
 obtain ⟨e,he,hke,hve⟩ := hm
 obtain ⟨A,B,rfl,hA⟩ := split_at h.nd he hke
 subst hke
 have hi := h.si e he
 have hnd := h.nd
 rw [List.pairwise_append,List.pairwise_cons] at hnd
 have hkB : ∀ b ∈ B,b.key ≠ e.key := fun b hb g => hnd.2.1.1 b hb g.symm
 have hlk : S.look (some m) (KI.kv e.key) = some (some (.ptr (some (HA.cell0 e.p)))) := by
  rw [HS.look,HS.mp,h.mp,Option.bind_some,mf_at rfl 0 hA]; rfl
 have fl : Fr S.next S (S.lit [[.str v]] 1).2 := lit_fr _ (Nat.le_refl _)
 have nl : (S.lit [[.str v]] 1).2.next = S.next + 1 := rfl
 have rl : (S.lit [[.str v]] 1).2.rows (S.lit [[.str v]] 1).1 1 = some ([v].map KS.row1) := (Vec.lit (n := 0) (z := 1) (S := S) _ (Nat.zero_le _)).rows
 have ql : ∀ q,(S.lit [[.str v]] 1).1.a = some q → q.1 = S.next := fun q hq => by cases hq; rfl
 rw [pair_take_int_string.f]
 erw [hlk]
 rw [Option.bind_some,show dP ((some (HV.ptr (some (HA.cell0 e.p)))).getD (.ptr none)) = some (some (HA.cell0 e.p)) from rfl,Option.bind_some,letv]
 generalize S.lit [[.str v]] 1 = P at fl nl rl ql ⊢
 obtain ⟨sl,S1⟩ := P
 simp only at fl nl rl ql ⊢
 have h1 := h.fr fl
 obtain ⟨s',xs',S2,e2,i2,o2,m2,c2⟩ := KS.remove_spec hk (hi.fr fl) rl (fun q hq => by
  have := ql q hq
  exact ⟨by omega,fun g => by have := hi.lt g; omega⟩) (by simp)
 obtain ⟨g1,g2⟩ := h1.upd i2 o2
 have hlk2 : S2.look (some m) (KI.kv e.key) = some (some (.ptr (some (HA.cell0 e.p)))) := by
  rw [HS.look,HS.mp,g1.mp,Option.bind_some,mf_at (e := ⟨e.key,e.p,s',xs'⟩) rfl 0 hA]; rfl
 have hx : ∀ u,u ∈ xs' ↔ u ∈ e.xs ∧ u ≠ v := fun u => by rw [m2]; simp
 rw [e2,Option.bind_some]
 erw [hlk2]
 rw [Option.bind_some,show dP ((some (HV.ptr (some (HA.cell0 e.p)))).getD (.ptr none)) = some (some (HA.cell0 e.p)) from rfl,Option.bind_some,KS.len_spec i2,Option.bind_some]
 have hmem : ∀ k' v',mem (A ++ ⟨e.key,e.p,s',xs'⟩ :: B) k' v' ↔ mem (A ++ e :: B) k' v' ∧ ¬ (k' = e.key ∧ v' = v) := by
  intro k' v'
  constructor
  ·rintro ⟨x,hx1,hx2,hx3⟩
   rcases List.mem_append.1 hx1 with g | g
   ·exact ⟨⟨x,by simp [g],hx2,hx3⟩,fun q => hA x g (hx2.trans q.1)⟩
   ·rcases List.mem_cons.1 g with rfl | g
    ·have := (hx v').1 hx3
     exact ⟨⟨e,by simp,hx2,this.1⟩,fun q => this.2 q.2⟩
    ·exact ⟨⟨x,by simp [g],hx2,hx3⟩,fun q => hkB x g (hx2.trans q.1)⟩
  ·rintro ⟨⟨x,hx1,hx2,hx3⟩,hq⟩
   rcases List.mem_append.1 hx1 with g | g
   ·exact ⟨x,by simp [g],hx2,hx3⟩
   ·rcases List.mem_cons.1 g with rfl | g
    ·exact ⟨⟨x.key,x.p,s',xs'⟩,by simp,hx2,(hx v').2 ⟨hx3,fun q => hq ⟨hx2.symm,q⟩⟩⟩
    ·exact ⟨x,by simp [g],hx2,hx3⟩
 by_cases h0 : xs' = []
 ·subst h0
  obtain ⟨S3,e3,k1,k2⟩ := g1.del hA
  rw [if_pos (by simp)]
  erw [e3]
  rw [Option.bind_some]
  refine ⟨A ++ B,S3,rfl,k1,((Chg.of_fr fl).trans g2).trans k2,fun k' v' => ?_,fun x hx => ?_,fun x hx => ?_⟩
  ·rw [← hmem]
   constructor
   ·rintro ⟨x,q1,q2,q3⟩
    refine ⟨x,?_,q2,q3⟩
    rcases List.mem_append.1 q1 with g | g <;> simp [g]
   ·rintro ⟨x,q1,q2,q3⟩
    rcases List.mem_append.1 q1 with g | g
    ·exact ⟨x,by simp [g],q2,q3⟩
    ·rcases List.mem_cons.1 g with rfl | g
     ·cases q3
     ·exact ⟨x,by simp [g],q2,q3⟩
  ·rcases List.mem_append.1 hx with g | g <;> exact hne x (by simp [g])
  ·rcases List.mem_append.1 hx with g | g <;> exact hc x (by simp [g])
 ·rw [if_neg (by simpa using h0)]
  refine ⟨_,S2,rfl,g1,(Chg.of_fr fl).trans g2,hmem,fun x hx => ?_,fun x hx => ?_⟩
  ·rcases List.mem_append.1 hx with g | g
   ·exact hne x (by simp [g])
   ·rcases List.mem_cons.1 g with rfl | g
    ·exact h0
    ·exact hne x (by simp [g])
  ·rcases List.mem_append.1 hx with g | g
   ·exact hc x (by simp [g])
   ·rcases List.mem_cons.1 g with rfl | g
    ·have := hc e (by simp); simp only; omega
    ·exact hc x (by simp [g])
end MA
end Go.Proofs.YtcphapfclncggaaDoor.X
namespace Go.Proofs.YtcphapfclncggaaDoor.X
open Go.Proofs.YtcphapfclncggaaDoor.HL
set_option linter.unusedVariables false
namespace MB
abbrev Kk := KS.Ky
abbrev Vv := KI.Ky
structure En where
 key : Kk
 p : Nat
 s : Sl
 xs : List Vv
def ent (e : En) : HV × HV := (KS.kv e.key,.ptr (some (HA.cell0 e.p)))
theorem kSame_kv (a b : Kk) : kSame (KS.kv a) (KS.kv b) = some (a == b) := by simp [kSame,kSame1,KS.kv]
theorem mf_none {k : Kk} : ∀ {E : List En} (i : Nat),(∀ e ∈ E,e.key ≠ k) → mfind (KS.kv k) (E.map ent) i = some none := by
 intro E
 induction E with
 | nil => intro i _; rfl
 | cons e E ih =>
  intro i h
  rw [List.map_cons,mfind.eq_def]
  simp only [ent,kSame_kv,show (k == e.key) = false from beq_eq_false_iff_ne.2 (fun g => h e (by simp) g.symm)]
  exact ih (i + 1) fun x hx => h x (by simp [hx])
theorem mf_at {k : Kk} {e : En} {B : List En} (hk : e.key = k) : ∀ {A : List En} (i : Nat),(∀ a ∈ A,a.key ≠ k) → mfind (KS.kv k) ((A ++ e :: B).map ent) i = some (some (i + A.length,.ptr (some (HA.cell0 e.p)))) := by
 intro A
 induction A with
 | nil =>
  intro i _
  rw [List.nil_append,List.map_cons,mfind.eq_def]
  simp only [ent,kSame_kv,hk,beq_self_eq_true]
  rfl
 | cons a A ih =>
  intro i h
  rw [List.cons_append,List.map_cons,mfind.eq_def]
  simp only [ent,kSame_kv,show (k == a.key) = false from beq_eq_false_iff_ne.2 (fun g => h a (by simp) g.symm)]
  rw [ih (i + 1) fun x hx => h x (by simp [hx])]
  simp; omega
structure MS (m : Nat) (E : List En) (S : HS) : Prop where
 mp : S.heap m = .map (E.map ent)
 nd : E.Pairwise fun a b => a.key ≠ b.key
 si : ∀ e ∈ E,KI.SI e.p e.s e.xs S
 dis : E.Pairwise fun a b => ∀ id,Own a.p a.s id → ¬ Own b.p b.s id
 nm : ∀ e ∈ E,¬ Own e.p e.s m
 lt : m < S.next
def OM (m : Nat) (E : List En) (id : Nat) : Prop := id = m ∨ ∃ e ∈ E,Own e.p e.s id
def mem (E : List En) (k : Kk) (v : Vv) : Prop := ∃ e ∈ E,e.key = k ∧ v ∈ e.xs
theorem MS.ltO {m : Nat} {E : List En} {S : HS} (h : MS m E S) {id : Nat} (ho : OM m E id) : id < S.next := by
 rcases ho with rfl | ⟨e,he,ho⟩
 ·exact h.lt
 ·exact (h.si e he).lt ho
theorem MS.keep {m : Nat} {E : List En} {S S' : HS} (h : MS m E S) (hk : ∀ id,OM m E id → S'.heap id = S.heap id) (hn : S.next ≤ S'.next) : MS m E S' :=
 ⟨(hk m (.inl rfl)).trans h.mp,h.nd,fun e he => (h.si e he).keep (fun id ho => hk id (.inr ⟨e,he,ho⟩)) hn,h.dis,h.nm,Nat.lt_of_lt_of_le h.lt hn⟩
theorem MS.fr {m : Nat} {E : List En} {S S' : HS} (h : MS m E S) (hf : Fr S.next S S') : MS m E S' := h.keep (fun id ho => hf.eq id (h.ltO ho)) hf.le
theorem split_at {E : List En} {k : Kk} (hn : E.Pairwise fun a b => a.key ≠ b.key) {e : En} (he : e ∈ E) (hk : e.key = k) : ∃ A B,E = A ++ e :: B ∧ ∀ a ∈ A,a.key ≠ k := by
 obtain ⟨A,B,rfl⟩ := List.append_of_mem he
 refine ⟨A,B,rfl,fun a ha => ?_⟩
 rw [List.pairwise_append] at hn
 have := hn.2.2 a ha e (by simp)
 rw [← hk]; exact this
/-- What stands under a key. -/
theorem get_spec {m : Nat} {E : List En} {S : HS} (h : MS m E S) (k : Kk) : (S.look (some m) (KS.kv k) = some none ∧ ∀ e ∈ E,e.key ≠ k) ∨ ∃ A e B,E = A ++ e :: B ∧ e.key = k ∧ (∀ a ∈ A,a.key ≠ k) ∧ S.look (some m) (KS.kv k) = some (some (.ptr (some (HA.cell0 e.p)))) := by
 by_cases hx : ∃ e ∈ E,e.key = k
 ·obtain ⟨e,he,hk⟩ := hx
  obtain ⟨A,B,rfl,hA⟩ := split_at h.nd he hk
  refine .inr ⟨A,e,B,rfl,hk,hA,?_⟩
  rw [HS.look,HS.mp,h.mp,Option.bind_some,mf_at hk 0 hA]; rfl
 ·refine .inl ⟨?_,fun e he g => hx ⟨e,he,g⟩⟩
  rw [HS.look,HS.mp,h.mp,Option.bind_some,mf_none 0 fun e he g => hx ⟨e,he,g⟩]; rfl
/-- One set is another now. -/
theorem MS.upd {m : Nat} {A B : List En} {e : En} {s' : Sl} {xs' : List Vv} {S S' : HS} (h : MS m (A ++ e :: B) S) (hs : KI.SI e.p s' xs' S') (ho : Only e.p e.s s' S S') :
  MS m (A ++ ⟨e.key,e.p,s',xs'⟩ :: B) S' ∧ Chg (OM m (A ++ e :: B)) (OM m (A ++ ⟨e.key,e.p,s',xs'⟩ :: B)) S S' := by
 have hle := ho.le
 have hd := h.dis
 rw [List.pairwise_append,List.pairwise_cons] at hd
 have hn := h.nd
 rw [List.pairwise_append,List.pairwise_cons] at hn
 have hso : ∀ id,Own e.p s' id → Own e.p e.s id ∨ S.next ≤ id := ho.own
 have hoth : ∀ a,a ∈ A ∨ a ∈ B → a ∈ A ++ e :: B ∧ ∀ id,Own a.p a.s id → ¬ Own e.p e.s id := fun a ha => by
  rcases ha with g | g
  ·exact ⟨by simp [g],fun id h1 h2 => hd.2.2 a g e (by simp) id h1 h2⟩
  ·exact ⟨by simp [g],fun id h1 h2 => hd.2.1.1 a g id h2 h1⟩
 have hnew : ∀ a,a ∈ A ∨ a ∈ B → ∀ id,Own a.p a.s id → ¬ Own e.p s' id := fun a ha id h1 h2 => by
  rcases hso id h2 with g | g
  ·exact (hoth a ha).2 id h1 g
  ·have := (h.si a (hoth a ha).1).lt h1; omega
 refine ⟨⟨?_,?_,fun x hx => ?_,?_,fun x hx => ?_,by have := h.lt; omega⟩,⟨hle,fun id h1 h2 => ho.eq id h1 fun g => h2 (.inr ⟨e,by simp,g⟩),fun id hid => ?_⟩⟩
 ·rw [ho.eq m h.lt (h.nm e (by simp)),h.mp]
  simp [ent]
 ·rw [List.pairwise_append,List.pairwise_cons]
  refine ⟨hn.1,⟨hn.2.1.1,hn.2.1.2⟩,fun a ha b hb => ?_⟩
  rcases List.mem_cons.1 hb with rfl | hb
  ·exact hn.2.2 a ha e (by simp)
  ·exact hn.2.2 a ha b (by simp [hb])
 ·rcases List.mem_append.1 hx with g | g
  ·exact (h.si x (by simp [g])).keep (fun id h1 => ho.eq id ((h.si x (by simp [g])).lt h1) ((hoth x (.inl g)).2 id h1)) hle
  ·rcases List.mem_cons.1 g with rfl | g
   ·exact hs
   ·exact (h.si x (by simp [g])).keep (fun id h1 => ho.eq id ((h.si x (by simp [g])).lt h1) ((hoth x (.inr g)).2 id h1)) hle
 ·rw [List.pairwise_append,List.pairwise_cons]
  refine ⟨hd.1,⟨fun b hb id h1 h2 => hnew b (.inr hb) id h2 h1,hd.2.1.2⟩,fun a ha b hb => ?_⟩
  rcases List.mem_cons.1 hb with rfl | hb
  ·exact hnew a (.inl ha)
  ·exact hd.2.2 a ha b (by simp [hb])
 ·rcases List.mem_append.1 hx with g | g
  ·exact h.nm x (by simp [g])
  ·rcases List.mem_cons.1 g with rfl | g
   ·intro g'
    rcases hso m g' with g2 | g2
    ·exact h.nm e (by simp) g2
    ·have := h.lt; omega
   ·exact h.nm x (by simp [g])
 ·rcases hid with rfl | ⟨x,hx,g⟩
  ·exact .inl (.inl rfl)
  ·rcases List.mem_append.1 hx with g' | g'
   ·exact .inl (.inr ⟨x,by simp [g'],g⟩)
   ·rcases List.mem_cons.1 g' with rfl | g'
    ·exact (hso id g).imp (fun q => .inr ⟨e,by simp,q⟩) id_
    ·exact .inl (.inr ⟨x,by simp [g'],g⟩)
where id_ {p : Prop} (h : p) : p := h
theorem j0_spec {k m : Nat} {A B : List En} {e : En} {v : Vv} {S : HS} (hk : 2000 ≤ k) (h : MS m (A ++ e :: B) S) (hA : ∀ a ∈ A,a.key ≠ e.key) (hc : e.xs.length < 1000) :
  ∃ s' xs' S',pair_put_string_int.J0 k (some m) e.key v S = some ((),S') ∧ MS m (A ++ ⟨e.key,e.p,s',xs'⟩ :: B) S' ∧ Chg (OM m (A ++ e :: B)) (OM m (A ++ ⟨e.key,e.p,s',xs'⟩ :: B)) S S' ∧ (∀ u,u ∈ xs' ↔ u ∈ e.xs ∨ u = v) ∧ xs'.length ≤ e.xs.length + 1 := by
 have he := h.si e (by simp)
 have hlk : S.look (some m) (KS.kv e.key) = some (some (.ptr (some (HA.cell0 e.p)))) := by
  rw [HS.look,HS.mp,h.mp,Option.bind_some,mf_at rfl 0 hA]; rfl
 have fl : Fr S.next S (S.lit [[.int .i64 v]] 1).2 := lit_fr _ (Nat.le_refl _)
 have nl : (S.lit [[.int .i64 v]] 1).2.next = S.next + 1 := rfl
 have rl : (S.lit [[.int .i64 v]] 1).2.rows (S.lit [[.int .i64 v]] 1).1 1 = some ([v].map KI.row1) := (Vec.lit (n := 0) (z := 1) (S := S) _ (Nat.zero_le _)).rows
 have ql : ∀ q,(S.lit [[.int .i64 v]] 1).1.a = some q → q.1 = S.next := fun q hq => by cases hq; rfl
 rw [pair_put_string_int.J0]
 erw [hlk]
 rw [Option.bind_some,show dP ((some (HV.ptr (some (HA.cell0 e.p)))).getD (.ptr none)) = some (some (HA.cell0 e.p)) from rfl,Option.bind_some,letv]
 generalize S.lit [[.int .i64 v]] 1 = P at fl nl rl ql ⊢
 obtain ⟨sl,S1⟩ := P
 simp only at fl nl rl ql ⊢
 have h1 := h.fr fl
 have he1 := he.fr fl
 obtain ⟨s',xs',S2,e2,i2,o2,m2,c2,c2'⟩ := KI.add_spec hk he1 rl (fun q hq => by
  have := ql q hq
  exact ⟨by omega,fun g => by have := he.lt g; omega⟩) (by simp; omega)
 obtain ⟨g1,g2⟩ := h1.upd i2 o2
 rw [e2,Option.bind_some]
 exact ⟨s',xs',S2,rfl,g1,(Chg.of_fr fl).trans g2,fun u => by rw [m2]; simp,by simpa using c2'⟩
theorem put_spec {k m n : Nat} {E : List En} {key : Kk} {v : Vv} {S : HS} (hk : 2000 ≤ k) (h : MS m E S) (hne : ∀ e ∈ E,e.xs ≠ []) (hc : ∀ e ∈ E,e.xs.length ≤ n) (hn : n < 1000) :
  ∃ E' S',pair_put_string_int.f k (some m) key v S = some ((),S') ∧ MS m E' S' ∧ Chg (OM m E) (OM m E') S S' ∧ (∀ k' v',mem E' k' v' ↔ mem E k' v' ∨ (k' = key ∧ v' = v)) ∧ (∀ e ∈ E',e.xs ≠ []) ∧ (∀ e ∈ E',e.xs.length ≤ n + 1) := by
 have hmem : ∀ (A B : List En) (e : En) (s' : Sl) (xs' : List Vv),e.key = key → (∀ u,u ∈ xs' ↔ u ∈ e.xs ∨ u = v) → ∀ k' v',mem (A ++ ⟨e.key,e.p,s',xs'⟩ :: B) k' v' ↔ mem (A ++ e :: B) k' v' ∨ (k' = key ∧ v' = v) := by
  intro A B e s' xs' hke hx k' v'
  constructor
  ·rintro ⟨x,hx1,hx2,hx3⟩
   rcases List.mem_append.1 hx1 with g | g
   ·exact .inl ⟨x,by simp [g],hx2,hx3⟩
   ·rcases List.mem_cons.1 g with rfl | g
    ·rcases (hx v').1 hx3 with g2 | g2
     ·exact .inl ⟨e,by simp,hx2,g2⟩
     ·exact .inr ⟨by rw [← hx2]; exact hke,g2⟩
    ·exact .inl ⟨x,by simp [g],hx2,hx3⟩
  ·rintro (⟨x,hx1,hx2,hx3⟩ | ⟨rfl,rfl⟩)
   ·rcases List.mem_append.1 hx1 with g | g
    ·exact ⟨x,by simp [g],hx2,hx3⟩
    ·rcases List.mem_cons.1 g with rfl | g
     ·exact ⟨⟨x.key,x.p,s',xs'⟩,by simp,hx2,(hx v').2 (.inl hx3)⟩
     ·exact ⟨x,by simp [g],hx2,hx3⟩
   ·exact ⟨⟨e.key,e.p,s',xs'⟩,by simp,hke,(hx _).2 (.inr rfl)⟩
 rw [pair_put_string_int.f]
 rcases get_spec h key with ⟨e1,hno⟩ | ⟨A,e,B,rfl,hke,hA,e1⟩
 ·obtain ⟨s,xs,S1,e2,i2,f2,o2,m2,c2⟩ := KI.of_spec (k := k) (sl := Sl.nil) (ls := []) (S := S) hk ⟨rfl,fun q hq => by cases hq⟩ (by simp)
  have hx : xs = [] := by simpa using c2
  subst hx
  have h1 := h.fr f2
  have le2 := f2.le
  have hput : S1.mput (some m) (KS.kv key) (.ptr (some (HA.cell0 S.next))) = some (S1.put m (.map ((E ++ [(⟨key,S.next,s,[]⟩ : En)]).map ent))) := by
   simp only [HS.mput,h1.mp]
   rw [mf_none 0 hno]
   simp [ent]
  erw [e1]
  rw [Option.bind_some,show dP ((none : Option HV).getD (.ptr none)) = some none from rfl,Option.bind_some,if_pos (by rfl),e2,Option.bind_some]
  erw [hput]
  rw [Option.bind_some]
  have hmO : ∀ id,Own S.next s id → id ≠ m := fun id g => by have := o2 id g; have := h.lt; omega
  have h2 : MS m (E ++ (⟨key,S.next,s,[]⟩ : En) :: []) (S1.put m (.map ((E ++ [(⟨key,S.next,s,[]⟩ : En)]).map ent))) := by
   refine ⟨put_here _ _ _,?_,fun x hx => ?_,?_,fun x hx => ?_,by rw [put_next]; have := h.lt; omega⟩
   ·rw [List.pairwise_append]
    exact ⟨h.nd,List.pairwise_singleton _ _,fun a ha b hb => by simp at hb; subst hb; exact hno a ha⟩
   ·rcases List.mem_append.1 hx with g | g
    ·exact (h1.si x g).keep (fun id ho => put_other _ (fun q => by subst q; exact h1.nm x g ho)) (Nat.le_refl _)
    ·simp at g; subst g; exact i2.keep (fun id ho => put_other _ (hmO id ho)) (Nat.le_refl _)
   ·rw [List.pairwise_append]
    refine ⟨h.dis,List.pairwise_singleton _ _,fun a ha b hb id g1 g2 => ?_⟩
    simp at hb; subst hb
    have := (h.si a ha).lt g1
    have := o2 id g2
    omega
   ·rcases List.mem_append.1 hx with g | g
    ·exact h.nm x g
    ·simp at g; subst g; exact fun ho => hmO m ho rfl
  have hch : Chg (OM m E) (OM m (E ++ (⟨key,S.next,s,[]⟩ : En) :: [])) S (S1.put m (.map ((E ++ [(⟨key,S.next,s,[]⟩ : En)]).map ent))) := by
   refine ⟨by rw [put_next]; omega,fun id g1 g2 => by rw [put_other _ (fun q => g2 (.inl q))]; exact f2.eq id g1,fun id ho => ?_⟩
   rcases ho with g | ⟨x,hx,g⟩
   ·exact .inl (.inl g)
   ·rcases List.mem_append.1 hx with g' | g'
    ·exact .inl (.inr ⟨x,g',g⟩)
    ·simp at g'; subst g'; exact .inr (o2 id g)
  obtain ⟨s',xs',S3,e3,g1,g2,g3,g4⟩ := j0_spec (v := v) hk h2 hno (by simp)
  refine ⟨_,S3,e3,g1,hch.trans g2,fun k' v' => ?_,fun x hx => ?_,fun x hx => ?_⟩
  ·rw [hmem E [] ⟨key,S.next,s,[]⟩ s' xs' rfl g3]
   have : mem (E ++ (⟨key,S.next,s,[]⟩ : En) :: []) k' v' ↔ mem E k' v' := by
    constructor
    ·rintro ⟨x,hx,q1,q2⟩
     rcases List.mem_append.1 hx with g | g
     ·exact ⟨x,g,q1,q2⟩
     ·simp at g; subst g; cases q2
    ·rintro ⟨x,hx,q1,q2⟩; exact ⟨x,by simp [hx],q1,q2⟩
   rw [this]
  ·rcases List.mem_append.1 hx with g | g
   ·exact hne x g
   ·simp at g; subst g
    intro q
    have := (g3 v).2 (.inr rfl)
    simp only at q
    rw [q] at this; cases this
  ·rcases List.mem_append.1 hx with g | g
   ·have := hc x g; omega
   ·simp at g; subst g; simp at g4; simp; omega
 ·subst hke
  obtain ⟨s',xs',S3,e3,g1,g2,g3,g4⟩ := j0_spec (v := v) hk h hA (by have := hc e (by simp); omega)
  erw [e1]
  rw [Option.bind_some,show dP ((some (HV.ptr (some (HA.cell0 e.p)))).getD (.ptr none)) = some (some (HA.cell0 e.p)) from rfl,Option.bind_some,if_neg (by simp),e3]
  refine ⟨_,S3,rfl,g1,g2,fun k' v' => hmem A B e s' xs' rfl g3 k' v',fun x hx => ?_,fun x hx => ?_⟩
  ·rcases List.mem_append.1 hx with g | g
   ·exact hne x (by simp [g])
   ·rcases List.mem_cons.1 g with rfl | g
    ·intro q
     have := (g3 v).2 (.inr rfl)
     simp only at q
     rw [q] at this; cases this
    ·exact hne x (by simp [g])
  ·rcases List.mem_append.1 hx with g | g
   ·have := hc x (by simp [g]); omega
   ·rcases List.mem_cons.1 g with rfl | g
    ·have := hc e (by simp); simp only; omega
    ·have := hc x (by simp [g]); omega
theorem MS.del {m : Nat} {A B : List En} {e : En} {S : HS} (h : MS m (A ++ e :: B) S) (hA : ∀ a ∈ A,a.key ≠ e.key) :
  ∃ S',S.mdel (some m) (KS.kv e.key) = some S' ∧ MS m (A ++ B) S' ∧ Chg (OM m (A ++ e :: B)) (OM m (A ++ B)) S S' := by
 have hd := h.dis
 rw [List.pairwise_append,List.pairwise_cons] at hd
 have hn := h.nd
 rw [List.pairwise_append,List.pairwise_cons] at hn
 have hsub : ∀ x,x ∈ A ++ B → x ∈ A ++ e :: B := fun x hx => by
  rcases List.mem_append.1 hx with g | g <;> simp [g]
 refine ⟨S.put m (.map ((A ++ B).map ent)),?_,⟨put_here _ _ _,?_,fun x hx => (h.si x (hsub x hx)).keep (fun id ho => put_other _ (fun q => by subst q; exact h.nm x (hsub x hx) ho)) (Nat.le_refl _),?_,fun x hx => h.nm x (hsub x hx),h.lt⟩,⟨Nat.le_refl _,fun id _ g2 => put_other _ (fun q => g2 (.inl q)),fun id ho => .inl ?_⟩⟩
 ·simp only [HS.mdel,h.mp]
  rw [mf_at rfl 0 hA]
  simp only [Option.map_some,Nat.zero_add]
  congr 3
  rw [List.map_append,List.eraseIdx_append_of_length_le (by simp)]
  simp
 ·rw [List.pairwise_append]; exact ⟨hn.1,hn.2.1.2,fun a ha b hb => hn.2.2 a ha b (by simp [hb])⟩
 ·rw [List.pairwise_append]; exact ⟨hd.1,hd.2.1.2,fun a ha b hb => hd.2.2 a ha b (by simp [hb])⟩
 ·rcases ho with g | ⟨x,hx,g⟩
  ·exact .inl g
  ·exact .inr ⟨x,hsub x hx,g⟩
theorem take_spec {k m n : Nat} {E : List En} {key : Kk} {v : Vv} {S : HS} (hk : 2000 ≤ k) (h : MS m E S) (hne : ∀ e ∈ E,e.xs ≠ []) (hc : ∀ e ∈ E,e.xs.length ≤ n) (hm : mem E key v) :
  ∃ E' S',pair_take_string_int.f k (some m) key v S = some ((),S') ∧ MS m E' S' ∧ Chg (OM m E) (OM m E') S S' ∧ (∀ k' v',mem E' k' v' ↔ mem E k' v' ∧ ¬ (k' = key ∧ v' = v)) ∧ (∀ e ∈ E',e.xs ≠ []) ∧ (∀ e ∈ E',e.xs.length ≤ n) := by
 obtain ⟨e,he,hke,hve⟩ := hm
 obtain ⟨A,B,rfl,hA⟩ := split_at h.nd he hke
 subst hke
 have hi := h.si e he
 have hnd := h.nd
 rw [List.pairwise_append,List.pairwise_cons] at hnd
 have hkB : ∀ b ∈ B,b.key ≠ e.key := fun b hb g => hnd.2.1.1 b hb g.symm
 have hlk : S.look (some m) (KS.kv e.key) = some (some (.ptr (some (HA.cell0 e.p)))) := by
  rw [HS.look,HS.mp,h.mp,Option.bind_some,mf_at rfl 0 hA]; rfl
 have fl : Fr S.next S (S.lit [[.int .i64 v]] 1).2 := lit_fr _ (Nat.le_refl _)
 have nl : (S.lit [[.int .i64 v]] 1).2.next = S.next + 1 := rfl
 have rl : (S.lit [[.int .i64 v]] 1).2.rows (S.lit [[.int .i64 v]] 1).1 1 = some ([v].map KI.row1) := (Vec.lit (n := 0) (z := 1) (S := S) _ (Nat.zero_le _)).rows
 have ql : ∀ q,(S.lit [[.int .i64 v]] 1).1.a = some q → q.1 = S.next := fun q hq => by cases hq; rfl
 rw [pair_take_string_int.f]
 erw [hlk]
 rw [Option.bind_some,show dP ((some (HV.ptr (some (HA.cell0 e.p)))).getD (.ptr none)) = some (some (HA.cell0 e.p)) from rfl,Option.bind_some,letv]
 generalize S.lit [[.int .i64 v]] 1 = P at fl nl rl ql ⊢
 obtain ⟨sl,S1⟩ := P
 simp only at fl nl rl ql ⊢
 have h1 := h.fr fl
 obtain ⟨s',xs',S2,e2,i2,o2,m2,c2⟩ := KI.remove_spec hk (hi.fr fl) rl (fun q hq => by
  have := ql q hq
  exact ⟨by omega,fun g => by have := hi.lt g; omega⟩) (by simp)
 obtain ⟨g1,g2⟩ := h1.upd i2 o2
 have hlk2 : S2.look (some m) (KS.kv e.key) = some (some (.ptr (some (HA.cell0 e.p)))) := by
  rw [HS.look,HS.mp,g1.mp,Option.bind_some,mf_at (e := ⟨e.key,e.p,s',xs'⟩) rfl 0 hA]; rfl
 have hx : ∀ u,u ∈ xs' ↔ u ∈ e.xs ∧ u ≠ v := fun u => by rw [m2]; simp
 rw [e2,Option.bind_some]
 erw [hlk2]
 rw [Option.bind_some,show dP ((some (HV.ptr (some (HA.cell0 e.p)))).getD (.ptr none)) = some (some (HA.cell0 e.p)) from rfl,Option.bind_some,KI.len_spec i2,Option.bind_some]
 have hmem : ∀ k' v',mem (A ++ ⟨e.key,e.p,s',xs'⟩ :: B) k' v' ↔ mem (A ++ e :: B) k' v' ∧ ¬ (k' = e.key ∧ v' = v) := by
  intro k' v'
  constructor
  ·rintro ⟨x,hx1,hx2,hx3⟩
   rcases List.mem_append.1 hx1 with g | g
   ·exact ⟨⟨x,by simp [g],hx2,hx3⟩,fun q => hA x g (hx2.trans q.1)⟩
   ·rcases List.mem_cons.1 g with rfl | g
    ·have := (hx v').1 hx3
     exact ⟨⟨e,by simp,hx2,this.1⟩,fun q => this.2 q.2⟩
    ·exact ⟨⟨x,by simp [g],hx2,hx3⟩,fun q => hkB x g (hx2.trans q.1)⟩
  ·rintro ⟨⟨x,hx1,hx2,hx3⟩,hq⟩
   rcases List.mem_append.1 hx1 with g | g
   ·exact ⟨x,by simp [g],hx2,hx3⟩
   ·rcases List.mem_cons.1 g with rfl | g
    ·exact ⟨⟨x.key,x.p,s',xs'⟩,by simp,hx2,(hx v').2 ⟨hx3,fun q => hq ⟨hx2.symm,q⟩⟩⟩
    ·exact ⟨x,by simp [g],hx2,hx3⟩
 by_cases h0 : xs' = []
 ·subst h0
  obtain ⟨S3,e3,k1,k2⟩ := g1.del hA
  rw [if_pos (by simp)]
  erw [e3]
  rw [Option.bind_some]
  refine ⟨A ++ B,S3,rfl,k1,((Chg.of_fr fl).trans g2).trans k2,fun k' v' => ?_,fun x hx => ?_,fun x hx => ?_⟩
  ·rw [← hmem]
   constructor
   ·rintro ⟨x,q1,q2,q3⟩
    refine ⟨x,?_,q2,q3⟩
    rcases List.mem_append.1 q1 with g | g <;> simp [g]
   ·rintro ⟨x,q1,q2,q3⟩
    rcases List.mem_append.1 q1 with g | g
    ·exact ⟨x,by simp [g],q2,q3⟩
    ·rcases List.mem_cons.1 g with rfl | g
     ·cases q3
     ·exact ⟨x,by simp [g],q2,q3⟩
  ·rcases List.mem_append.1 hx with g | g <;> exact hne x (by simp [g])
  ·rcases List.mem_append.1 hx with g | g <;> exact hc x (by simp [g])
 ·rw [if_neg (by simpa using h0)]
  refine ⟨_,S2,rfl,g1,(Chg.of_fr fl).trans g2,hmem,fun x hx => ?_,fun x hx => ?_⟩
  ·rcases List.mem_append.1 hx with g | g
   ·exact hne x (by simp [g])
   ·rcases List.mem_cons.1 g with rfl | g
    ·exact h0
    ·exact hne x (by simp [g])
  ·rcases List.mem_append.1 hx with g | g
   ·exact hc x (by simp [g])
   ·rcases List.mem_cons.1 g with rfl | g
    ·have := hc e (by simp); simp only; omega
    ·exact hc x (by simp [g])
end MB
end Go.Proofs.YtcphapfclncggaaDoor.X
