/- Functions of the program, each as a Lean function over the layer HL: a call answers what the Lean function answers, where it answers. -/
import Derived.Test.YtbmfomkfmpppiaaGreatProg
import Derived.Test.YtbmfomkfmpppiaaGreatPart9
namespace Go.Proofs.YtbmfomkfmpppiaaGreat.X
open Go.Proofs.YtbmfomkfmpppiaaGreat.HL
set_option linter.unusedVariables false
set_option linter.unusedSimpArgs false
set_option maxRecDepth 20000
set_option maxHeartbeats 4000000
noncomputable section
variable {base : Nat} {W0 : World} {β0 : Bt}
variable {D : Dp} {H : Hd} {k : Nat} {Ga Gb Gc Gd Ge Gf Gg Gh Gi Gj Gk Gl Gm Gn Go Gp Gq Gr Gs Gt Gu Gv Gw Gx Gy Gz Ka Kb Kc Kd Ke Kf Kg Kh Ki Kj Kk Kl Km Kn Ko Kp Kq Kr Ks Kt Ku Kv Kw Kx Ky Kz : HV}
namespace pair_Rel_int_string_Count
theorem at_ : FnAt Tryz.prog 67 Tryz.f67 := ⟨Tryz.func67,by kernel_rfl⟩
def d0 := (Tryz.f67.body).getD .skip
def r1 := kR (kA d0)
def r4 := kR (kA (kA (kB d0)))
def r7 := kR (kA (kA (kB (kA (kB d0)))))
def r11 := kR (kA (kB (kB d0)))
def c0 : Code := .seq (.region 0 r1 false) (.seq (.seq (.region 1 r4 false) (.cond (.tmp 6) (.seq (.region 2 r7 false) .ret) .skip)) (.seq (.region 3 r11 false) .ret))
theorem body : Tryz.f67.body = some c0 := by kernel_rfl
def f (x0 : HP) (x1 : Int) (S : HS) : Option ((Int) × HS) :=
 (if (Option.isNone x0) = true then
 some (0,S) else
 (x0.bind fun p2 =>
 ((S.ldM (HA.fld p2 2)).bind fun p3 =>
 ((S.look p3 (.int .i64 x1)).bind fun p4 =>
 ((dP (Option.getD p4 (.ptr none))).bind fun p5 =>
 ((set_Set_string_Len.f p5 S).bind fun p6 =>
 some (p6.1,p6.2)))))))
theorem snd {x0 : HP} {x1 : Int} {S : HS}  {p : (Int) × HS} (h : f x0 x1 S = some p) : HCall Tryz.prog base W0 β0 67 [(.ptr x0),(.int .i64 x1)] S (fun v S1 => v = (.int .i64 p.1) ∧ S1 = p.2) := by
 unfold f at h
 refine HCall.of_run at_.at_ body ?_
 show HR base W0 β0 67 none [.code c0] ⟨[(.ptr x0),(.int .i64 x1),τ,τ,τ,τ,τ,τ,τ,τ,τ,τ,τ,τ],[]⟩ S _
 refine qQ rfl (qR rfl rfl (qS 4 rfl (ok_assign · (.int _ _)) (rE ?_)))
 try dsimp only [w0,w1,w2,w3]
 refine qQ rfl (qQ rfl (qR rfl rfl (qS 5 rfl (oM · rfl) (qS 6 rfl (ok_nil_ptr · tu79 (.tmp rfl) (.inl ⟨rfl,rfl⟩)) (rE ?_)))))
 try dsimp only [w0,w1,w2,w3]
 rcases ifc h with ⟨hc1,h⟩ | ⟨hc1,h⟩
 ·refine q_cond_t rfl (.tmp rfl) hc1 (qQ rfl (qR rfl rfl (qS 4 rfl (ok_assign · (.int _ _)) (rE ?_))))
  cases h
  exact q_ret rfl at_.at_ rfl (res1 rfl rfl) ⟨rfl,rfl⟩
 ·obtain ⟨p2,hp2,h⟩ := bindo h
  obtain ⟨p3,hp3,h⟩ := bindo h
  refine q_cond_f rfl (.tmp rfl) (bfalse hc1) (q_skipc rfl (qQ rfl (qR rfl rfl (qS 7 rfl (oM · rfl) (qS 8 rfl (oN · rfl hp2) (qS 9 rfl (oF · fi124_2 (by decide) rfl rfl) (qS 10 rfl (oL · sc121 rfl rfl (ldM_out hp3)) ?_)))))))
  try dsimp only [w0,w1,w2,w3]
  obtain ⟨p4,hp4,h⟩ := bindo h
  obtain ⟨p5,hp5,h⟩ := bindo h
  obtain ⟨p6,hp6,h⟩ := bindo h
  refine qS 11 rfl (oM · rfl) (qS 12 rfl (ok_lookup · tu121 zi134 (fun β => .ptrNil) (keyInt tu3) (.tmp rfl) (.tmp rfl) hp4 (dP_out hp5)) (q_call (dst := some 13) rfl (.func _) (.cons (.tmp rfl) Evs.nil) (HInv.static set_Set_string_Len.at_ set_Set_string_Len.body (set_Set_string_Len.snd  hp6)) ?_))
  rintro _ _ ⟨rfl,rfl⟩
  refine qS 4 rfl (oA · rfl) (rE ?_)
  cases h
  exact q_ret rfl at_.at_ rfl (res1 rfl rfl) ⟨rfl,rfl⟩
end pair_Rel_int_string_Count
namespace slices_Reverse_string_string
theorem at_ : FnAt Tryz.prog 139 Tryz.f139 := ⟨Tryz.func139,by kernel_rfl⟩
def d0 := (Tryz.f139.body).getD .skip
def r1 := kR (kA d0)
def r6 := kR (kA (kA (kA (kA (kB d0)))))
def r12 := kR (kA (kA (kB (kA (kA (kB d0))))))
def r13 := kR (kB (kB (kA (kA (kB d0)))))
def c4 : Code := .seq (.seq (.region 1 r6 false) (.cond (.tmp 9) .skip (.exit 0))) (.seq (.block 1 (.region 3 r12 true)) (.region 2 r13 false))
def c0 : Code := .seq (.region 0 r1 false) (.block 0 (.loop c4))
theorem body : Tryz.f139.body = some c0 := by kernel_rfl
def L0 (k : Nat) : Nat → Sl → Int → Int → HS → Option ((Unit) × HS)
 | 0,_,_,_,_ => none
 | n + 1,y0,y2,y3,S =>
  (if y2 < y3 then
  ((S.idx y0 y3 1).bind fun p2 =>
  ((S.ldS p2).bind fun p3 =>
  ((S.idx y0 y2 1).bind fun p4 =>
  ((S.ldS p4).bind fun p5 =>
  ((S.idx y0 y2 1).bind fun p6 =>
  ((S.sets p6 [(.str p3)]).bind fun p7 =>
  ((p7.idx y0 y3 1).bind fun p8 =>
  ((p7.sets p8 [(.str p5)]).bind fun p9 =>
  (L0 k n) y0 (w64 (y2 + 1)) (w64 (y3 - 1)) p9)))))))) else
  some ((),S))
theorem L0_snd  : ∀ {n : Nat} ⦃y0 : Sl⦄ ⦃y2 : Int⦄ ⦃y3 : Int⦄ ⦃S : HS⦄ ⦃p : (Unit) × HS⦄ ⦃Gb Ge Gf Gg Gh Gi Gj Gk Gl Gm Gn Go Gp Gq Gr Gs Gt Gu Gv Gw Gx Gy Gz Ka Kb : HV⦄,L0 k n y0 y2 y3 S = some p → HR base W0 β0 139 none [.inLoop c4,.inBlock 0] ⟨[(Sl.hv y0),Gb,(.int .i64 y2),(.int .i64 y3),Ge,Gf,Gg,Gh,Gi,Gj,Gk,Gl,Gm,Gn,Go,Gp,Gq,Gr,Gs,Gt,Gu,Gv,Gw,Gx,Gy,Gz,Ka,Kb],[]⟩ S (fun v S1 => v = (.tup []) ∧ S1 = p.2) := by
 intro n
 induction n with
 | zero => intro _ _ _ _ _ _ _ _ _ _ _ _ _ _ _ _ _ _ _ _ _ _ _ _ _ _ _ _ _ _ h; cases h
 | succ n ih =>
  intro y0 y2 y3 S p Gb Ge Gf Gg Gh Gi Gj Gk Gl Gm Gn Go Gp Gq Gr Gs Gt Gu Gv Gw Gx Gy Gz Ka Kb h
  simp only [L0] at h
  refine hr_inLoop (qQ rfl (qQ rfl (qR rfl rfl (qS 7 rfl (oM · rfl) (qS 8 rfl (oM · rfl) (qS 9 rfl (oB · rfl rfl rfl) (rE ?_)))))))
  try dsimp only [w0,w1,w2,w3]
  rcases ifc h with ⟨hc1,h⟩ | ⟨hc1,h⟩
  ·refine q_cond_t rfl (.tmp rfl) (decide_eq_true hc1) (q_skipc rfl (qQ rfl (q_block rfl ?_)))
   refine x_start (cls := [0,0,0,0,0,0,1,1,0,0,1,1,1,2,1,2]) (rk := [0,1,12,13,2,3,4,5,6,7,8,9,10,11,14,15]) rfl (by kernel_rfl) ?_
   refine yf 14 [0] rfl (oM · rfl) ?_
   refine yf 15 [2] rfl (oM · rfl) ?_
   refine yf 16 [0] rfl (oM · rfl) ?_
   refine yf 17 [3] rfl (oM · rfl) ?_
   try dsimp only [w0,w1,w2,w3]
   refine yf 18 [0] rfl (oM · rfl) ?_
   refine yf 19 [3] rfl (oM · rfl) ?_
   obtain ⟨p2,hp2,h⟩ := bindo h
   refine yr 20 [18,19] rfl (oX (s := y0) · tu57 sz9 rfl rfl hp2) ?_
   obtain ⟨p3,hp3,h⟩ := bindo h
   refine yr 21 [20] rfl (oL · sc9 rfl rfl (ldS_out hp3)) ?_
   try dsimp only [w0,w1,w2,w3]
   refine yf 22 [0] rfl (oM · rfl) ?_
   refine yf 23 [2] rfl (oM · rfl) ?_
   obtain ⟨p4,hp4,h⟩ := bindo h
   refine yr 24 [22,23] rfl (oX (s := y0) · tu57 sz9 rfl rfl hp4) ?_
   obtain ⟨p5,hp5,h⟩ := bindo h
   refine yr 25 [24] rfl (oL · sc9 rfl rfl (ldS_out hp5)) ?_
   try dsimp only [w0,w1,w2,w3]
   obtain ⟨p6,hp6,h⟩ := bindo h
   refine yr 26 [14,15] rfl (oX (s := y0) · tu57 sz9 rfl rfl hp6) ?_
   obtain ⟨p7,hp7,h⟩ := bindo h
   refine x_go (e_op (dst := none) (ts := [26,21]) rfl (by intro _ _ h; cases h) (by kernel_rfl) (fun _ ho => ok_store_s (v := (.str p3)) ho sz9 (.tmp rfl) rfl (.tmp rfl) rfl hp7)) rfl ?_
   obtain ⟨p8,hp8,h⟩ := bindo h
   refine yr 27 [16,17] rfl (oX (s := y0) · tu57 sz9 rfl rfl hp8) ?_
   obtain ⟨p9,hp9,h⟩ := bindo h
   refine x_go (e_op (dst := none) (ts := [27,25]) rfl (by intro _ _ h; cases h) (by kernel_rfl) (fun _ ho => ok_store_s (v := (.str p5)) ho sz9 (.tmp rfl) rfl (.tmp rfl) rfl hp9)) rfl ?_
   refine x_rest rfl ?_
   refine rE ?_
   try dsimp only [w0,w1,w2,w3]
   refine hr_inBlock (qR rfl rfl (qS 10 rfl (oM · rfl) (qS 11 rfl (oC · rfl rfl) (qS 12 rfl (oM · rfl) (qS 13 rfl (oC · rfl rfl) ?_)))))
   try dsimp only [w0,w1,w2,w3]
   refine qS 2 rfl (oA · rfl) (qS 3 rfl (oA · rfl) (rE ?_))
   try dsimp only [w0,w1,w2,w3]
   exact ih h
  ·cases h
   exact q_cond_f rfl (.tmp rfl) (decide_eq_false hc1) (q_exit rfl rfl (q_end at_.at_ rfl (res0 rfl) ⟨rfl,rfl⟩))
def f (k : Nat) (x0 : Sl) (S : HS) : Option ((Unit) × HS) :=
 L0 k k x0 0 (w64 ((Sl.len x0 : Int) - 1)) S
theorem snd {x0 : Sl} {S : HS}  {p : (Unit) × HS} (h : f k x0 S = some p) : HCall Tryz.prog base W0 β0 139 [(Sl.hv x0)] S (fun v S1 => v = (.tup []) ∧ S1 = p.2) := by
 unfold f at h
 refine HCall.of_run at_.at_ body ?_
 show HR base W0 β0 139 none [.code c0] ⟨[(Sl.hv x0),τ,τ,τ,τ,τ,τ,τ,τ,τ,τ,τ,τ,τ,τ,τ,τ,τ,τ,τ,τ,τ,τ,τ,τ,τ,τ,τ],[]⟩ S _
 refine qQ rfl (qR rfl rfl (qS 4 rfl (oM · rfl) (qS 5 rfl (ok_len_sl (q := Sl.a x0) (n := Sl.len x0) (z := Sl.cap x0) · rfl tu57 (.tmp rfl)) (qS 6 rfl (oC · rfl rfl) (qS 2 rfl (ok_assign · (.int _ _)) ?_)))))
 try dsimp only [w0,w1,w2,w3]
 refine qS 3 rfl (oA · rfl) (rE ?_)
 try dsimp only [w0,w1,w2,w3]
 refine q_block rfl (q_loop rfl ?_)
 try dsimp only [w0,w1,w2,w3]
 exact L0_snd  h
end slices_Reverse_string_string
namespace slices_rotateLeft_string
theorem at_ : FnAt Tryz.prog 138 Tryz.f138 := ⟨Tryz.func138,by kernel_rfl⟩
def d0 := (Tryz.f138.body).getD .skip
def r1 := kR (kA d0)
def r3 := kR (kA (kB d0))
def r4 := kR (kB (kB d0))
def c0 : Code := .seq (.region 0 r1 false) (.seq (.region 1 r3 false) (.region 2 r4 false))
theorem body : Tryz.f138.body = some c0 := by kernel_rfl
def f (k : Nat) (x0 : Sl) (x1 : Int) (S : HS) : Option ((Unit) × HS) :=
 ((S.cut x0 0 x1 1).bind fun p1 =>
 ((slices_Reverse_string_string.f k p1 S).bind fun p2 =>
 ((p2.2.cut x0 x1 (Sl.len x0 : Int) 1).bind fun p3 =>
 ((slices_Reverse_string_string.f k p3 p2.2).bind fun p4 =>
 ((slices_Reverse_string_string.f k x0 p4.2).bind fun p5 =>
 some ((),p5.2))))))
theorem snd {x0 : Sl} {x1 : Int} {S : HS}  {p : (Unit) × HS} (h : f k x0 x1 S = some p) : HCall Tryz.prog base W0 β0 138 [(Sl.hv x0),(.int .i64 x1)] S (fun v S1 => v = (.tup []) ∧ S1 = p.2) := by
 unfold f at h
 refine HCall.of_run at_.at_ body ?_
 show HR base W0 β0 138 none [.code c0] ⟨[(Sl.hv x0),(.int .i64 x1),τ,τ,τ,τ,τ,τ,τ,τ,τ,τ,τ,τ],[]⟩ S _
 obtain ⟨p1,hp1,h⟩ := bindo h
 obtain ⟨p2,hp2,h⟩ := bindo h
 refine qQ rfl (qR rfl rfl (qS 4 rfl (oM · rfl) (qS 5 rfl (oM · rfl) (qS 6 rfl (ok_slice (kl := .i64) (kh := .i64) (s := x0) (l := 0) (h := x1) · tu57 si9 (.tmp rfl) (.inl ⟨rfl,rfl⟩) (.inr ⟨_,rfl,(.tmp rfl)⟩) hp1) (q_call (dst := some 7) rfl (.func _) (.cons (.tmp rfl) Evs.nil) (HInv.static slices_Reverse_string_string.at_ slices_Reverse_string_string.body (slices_Reverse_string_string.snd  hp2)) ?_)))))
 rintro _ _ ⟨rfl,rfl⟩
 refine rE ?_
 try dsimp only [w0,w1,w2,w3]
 obtain ⟨p3,hp3,h⟩ := bindo h
 obtain ⟨p4,hp4,h⟩ := bindo h
 refine qQ rfl (qR rfl rfl (qS 8 rfl (oM · rfl) (qS 9 rfl (oM · rfl) (qS 10 rfl (ok_slice (kl := .i64) (kh := .i64) (s := x0) (l := x1) (h := (Sl.len x0 : Int)) · tu57 si9 (.tmp rfl) (.inr ⟨_,rfl,(.tmp rfl)⟩) (.inl ⟨rfl,rfl⟩) hp3) (q_call (dst := some 11) rfl (.func _) (.cons (.tmp rfl) Evs.nil) (HInv.static slices_Reverse_string_string.at_ slices_Reverse_string_string.body (slices_Reverse_string_string.snd  hp4)) ?_)))))
 rintro _ _ ⟨rfl,rfl⟩
 refine rE ?_
 try dsimp only [w0,w1,w2,w3]
 obtain ⟨p5,hp5,h⟩ := bindo h
 refine qR rfl rfl (qS 12 rfl (oM · rfl) (q_call (dst := some 13) rfl (.func _) (.cons (.tmp rfl) Evs.nil) (HInv.static slices_Reverse_string_string.at_ slices_Reverse_string_string.body (slices_Reverse_string_string.snd  hp5)) ?_))
 rintro _ _ ⟨rfl,rfl⟩
 refine rE ?_
 try dsimp only [w0,w1,w2,w3]
 cases h
 exact q_end at_.at_ rfl (res0 rfl) ⟨rfl,rfl⟩
end slices_rotateLeft_string
namespace slices_rotateRight_string
theorem at_ : FnAt Tryz.prog 134 Tryz.f134 := ⟨Tryz.func134,by kernel_rfl⟩
def d0 := (Tryz.f134.body).getD .skip
def r0 := kR d0
def c0 : Code := .region 0 r0 false
theorem body : Tryz.f134.body = some c0 := by kernel_rfl
def f (k : Nat) (x0 : Sl) (x1 : Int) (S : HS) : Option ((Unit) × HS) :=
 ((slices_rotateLeft_string.f k x0 (w64 ((Sl.len x0 : Int) - x1)) S).bind fun p1 =>
 some ((),p1.2))
theorem snd {x0 : Sl} {x1 : Int} {S : HS}  {p : (Unit) × HS} (h : f k x0 x1 S = some p) : HCall Tryz.prog base W0 β0 134 [(Sl.hv x0),(.int .i64 x1)] S (fun v S1 => v = (.tup []) ∧ S1 = p.2) := by
 unfold f at h
 refine HCall.of_run at_.at_ body ?_
 show HR base W0 β0 134 none [.code c0] ⟨[(Sl.hv x0),(.int .i64 x1),τ,τ,τ,τ,τ,τ,τ,τ],[]⟩ S _
 refine qR rfl rfl (qS 4 rfl (oM · rfl) (qS 5 rfl (oM · rfl) (qS 6 rfl (ok_len_sl (q := Sl.a x0) (n := Sl.len x0) (z := Sl.cap x0) · rfl tu57 (.tmp rfl)) (qS 7 rfl (oM · rfl) ?_))))
 try dsimp only [w0,w1,w2,w3]
 obtain ⟨p1,hp1,h⟩ := bindo h
 refine qS 8 rfl (oB · rfl rfl rfl) (q_call (dst := some 9) rfl (.func _) (.cons (.tmp rfl) (.cons (.tmp rfl) Evs.nil)) (HInv.static slices_rotateLeft_string.at_ slices_rotateLeft_string.body (slices_rotateLeft_string.snd  hp1)) ?_)
 rintro _ _ ⟨rfl,rfl⟩
 refine rE ?_
 try dsimp only [w0,w1,w2,w3]
 cases h
 exact q_end at_.at_ rfl (res0 rfl) ⟨rfl,rfl⟩
end slices_rotateRight_string
namespace slices_Insert_string_string
theorem at_ : FnAt Tryz.prog 126 Tryz.f126 := ⟨Tryz.func126,by kernel_rfl⟩
def d0 := (Tryz.f126.body).getD .skip
def r1 := kR (kA d0)
def r3 := kR (kA (kB d0))
def r5 := kR (kA (kB (kB d0)))
def d6 := kB (kB (kB d0))
def r8 := kR (kA (kA d6))
def r11 := kR (kA (kA (kB (kA d6))))
def r15 := kR (kA (kB d6))
def r18 := kR (kA (kA (kB (kB d6))))
def r21 := kR (kA (kA (kB (kA (kB (kB d6))))))
def d24 := kB (kB (kB d6))
def r26 := kR (kA (kA d24))
def d28 := kA (kB (kA d24))
def r29 := kR (kA d28)
def r31 := kR (kA (kB d28))
def r33 := kR (kA (kB (kB d28)))
def r35 := kR (kA (kB (kB (kB d28))))
def r39 := kR (kA (kB d24))
def d41 := kA (kB (kB d24))
def r42 := kR (kA d41)
def r45 := kR (kA (kA (kB d41)))
def r47 := kR (kA (kB (kA (kB d41))))
def r49 := kR (kA (kB (kB (kA (kB d41)))))
def r53 := kR (kA (kB (kB (kB d24))))
def r55 := kR (kA (kB (kB (kB (kB d24)))))
def r57 := kR (kA (kB (kB (kB (kB (kB d24))))))
def c0 : Code := .seq (.region 0 r1 false) (.seq (.region 1 r3 false) (.seq (.region 2 r5 false) (.seq (.seq (.region 3 r8 false) (.cond (.tmp 16) (.seq (.region 4 r11 false) .ret) .skip)) (.seq (.region 5 r15 false) (.seq (.seq (.region 6 r18 false) (.cond (.tmp 22) (.seq (.region 7 r21 false) .ret) .skip)) (.seq (.seq (.region 8 r26 false) (.cond (.tmp 31) (.seq (.region 9 r29 false) (.seq (.region 10 r31 false) (.seq (.region 11 r33 true) (.seq (.region 12 r35 false) .ret)))) .skip)) (.seq (.region 13 r39 false) (.seq (.seq (.region 14 r42 false) (.cond (.tmp 68) (.seq (.region 15 r45 true) (.seq (.region 16 r47 false) (.seq (.region 17 r49 false) .ret))) .skip)) (.seq (.region 18 r53 false) (.seq (.region 19 r55 false) (.seq (.region 20 r57 false) .ret)))))))))))
theorem body : Tryz.f126.body = some c0 := by kernel_rfl
def f (k : Nat) (x0 : Sl) (x1 : Int) (x2 : Sl) (S : HS) : Option ((Sl) × HS) :=
 ((S.cut x0 x1 (Sl.len x0 : Int) 1).bind fun p1 =>
 (if (Sl.len x2 : Int) = 0 then
 some (x0,S) else
 (if x1 = (Sl.len x0 : Int) then
 ((S.rows x2 1).bind fun p4 =>
 ((S.app x0 p4 1).bind fun p5 =>
 some ((p5.1),(p5.2)))) else
 ((Sl.capOf x0).bind fun p6 =>
 (if (w64 ((Sl.len x0 : Int) + (Sl.len x2 : Int))) > p6 then
 ((S.cut x0 0 x1 1).bind fun p8 =>
 ((S.appZ p8 (w64 ((w64 ((Sl.len x0 : Int) + (Sl.len x2 : Int))) - x1)) [(.str [])] 1).bind fun p9 =>
 ((p9.2.cut (p9.1) x1 (Sl.len (p9.1) : Int) 1).bind fun p10 =>
 ((p9.2.rows x2 1).bind fun p11 =>
 ((p9.2.over p10 (List.take (Sl.len p10) p11) 1).bind fun p12 =>
 ((p12.cut (p9.1) (w64 (x1 + (Sl.len x2 : Int))) (Sl.len (p9.1) : Int) 1).bind fun p13 =>
 ((p12.cut x0 x1 (Sl.len x0 : Int) 1).bind fun p14 =>
 ((p12.rows p14 1).bind fun p15 =>
 ((p12.over p13 (List.take (Sl.len p13) p15) 1).bind fun p16 =>
 some ((p9.1),p16)))))))))) else
 ((S.cut x0 0 (w64 ((Sl.len x0 : Int) + (Sl.len x2 : Int))) 1).bind fun p17 =>
 ((S.cut p17 (w64 (x1 + (Sl.len x2 : Int))) (Sl.len p17 : Int) 1).bind fun p18 =>
 ((S.ovl x2 p18).bind fun p19 =>
 (if (!p19) = true then
 ((S.cut p17 (w64 (x1 + (Sl.len x2 : Int))) (Sl.len p17 : Int) 1).bind fun p21 =>
 ((S.cut p17 x1 (Sl.len p17 : Int) 1).bind fun p22 =>
 ((S.rows p22 1).bind fun p23 =>
 ((S.over p21 (List.take (Sl.len p21) p23) 1).bind fun p24 =>
 ((p24.cut p17 x1 (Sl.len p17 : Int) 1).bind fun p25 =>
 ((p24.rows x2 1).bind fun p26 =>
 ((p24.over p25 (List.take (Sl.len p25) p26) 1).bind fun p27 =>
 some (p17,p27)))))))) else
 ((S.cut p17 (Sl.len x0 : Int) (Sl.len p17 : Int) 1).bind fun p28 =>
 ((S.rows x2 1).bind fun p29 =>
 ((S.over p28 (List.take (Sl.len p28) p29) 1).bind fun p30 =>
 ((p30.cut p17 x1 (Sl.len p17 : Int) 1).bind fun p31 =>
 ((slices_rotateRight_string.f k p31 (Sl.len x2 : Int) p30).bind fun p32 =>
 some (p17,p32.2)))))))))))))))
theorem snd {x0 : Sl} {x1 : Int} {x2 : Sl} {S : HS}  {p : (Sl) × HS} (h : f k x0 x1 x2 S = some p) : HCall Tryz.prog base W0 β0 126 [(Sl.hv x0),(.int .i64 x1),(Sl.hv x2)] S (fun v S1 => v = (Sl.hv p.1) ∧ S1 = p.2) := by
 unfold f at h
 refine HCall.of_run at_.at_ body ?_
 show HR base W0 β0 126 none [.code c0] ⟨[(Sl.hv x0),(.int .i64 x1),(Sl.hv x2),τ,τ,τ,τ,τ,τ,τ,τ,τ,τ,τ,τ,τ,τ,τ,τ,τ,τ,τ,τ,τ,τ,τ,τ,τ,τ,τ,τ,τ,τ,τ,τ,τ,τ,τ,τ,τ,τ,τ,τ,τ,τ,τ,τ,τ,τ,τ,τ,τ,τ,τ,τ,τ,τ,τ,τ,τ,τ,τ,τ,τ,τ,τ,τ,τ,τ,τ,τ,τ,τ,τ,τ,τ,τ,τ,τ,τ,τ,τ,τ,τ,τ,τ,τ,τ,τ,τ,τ,τ,τ,τ,τ],[]⟩ S _
 refine qQ rfl (qR rfl rfl (qS 6 rfl (ok_assign · (.const fun _ => .slNil none)) (rE ?_)))
 try dsimp only [w0,w1,w2,w3]
 obtain ⟨p1,hp1,h⟩ := bindo h
 refine qQ rfl (qR rfl rfl (qS 10 rfl (oM · rfl) (qS 11 rfl (oM · rfl) (qS 12 rfl (ok_slice (kl := .i64) (kh := .i64) (s := x0) (l := x1) (h := (Sl.len x0 : Int)) · tu57 si9 (.tmp rfl) (.inr ⟨_,rfl,(.tmp rfl)⟩) (.inl ⟨rfl,rfl⟩) hp1) (rE ?_)))))
 try dsimp only [w0,w1,w2,w3]
 refine qQ rfl (qR rfl rfl (qS 13 rfl (oM · rfl) (qS 14 rfl (ok_len_sl (q := Sl.a x2) (n := Sl.len x2) (z := Sl.cap x2) · rfl tu57 (.tmp rfl)) (qS 7 rfl (oA · rfl) (rE ?_)))))
 try dsimp only [w0,w1,w2,w3]
 refine qQ rfl (qQ rfl (qR rfl rfl (qS 15 rfl (oM · rfl) (qS 16 rfl (oC · rfl rfl) (rE ?_)))))
 try dsimp only [w0,w1,w2,w3]
 rcases ifc h with ⟨hc2,h⟩ | ⟨hc2,h⟩
 ·refine q_cond_t rfl (.tmp rfl) (decide_eq_true hc2) (qQ rfl (qR rfl rfl (qS 17 rfl (oM · rfl) (qS 6 rfl (oA · rfl) (rE ?_)))))
  cases h
  exact q_ret rfl at_.at_ rfl (res1 rfl rfl) ⟨rfl,rfl⟩
 ·refine q_cond_f rfl (.tmp rfl) (decide_eq_false hc2) (q_skipc rfl (qQ rfl (qR rfl rfl (qS 18 rfl (oM · rfl) (qS 19 rfl (ok_len_sl (q := Sl.a x0) (n := Sl.len x0) (z := Sl.cap x0) · rfl tu57 (.tmp rfl)) (qS 8 rfl (oA · rfl) (rE ?_)))))))
  try dsimp only [w0,w1,w2,w3]
  refine qQ rfl (qQ rfl (qR rfl rfl (qS 20 rfl (oM · rfl) (qS 21 rfl (oM · rfl) (qS 22 rfl (oB · rfl rfl rfl) (rE ?_))))))
  try dsimp only [w0,w1,w2,w3]
  rcases ifc h with ⟨hc3,h⟩ | ⟨hc3,h⟩
  ·obtain ⟨p4,hp4,h⟩ := bindo h
   obtain ⟨p5,hp5,h⟩ := bindo h
   refine q_cond_t rfl (.tmp rfl) (decide_eq_true hc3) (qQ rfl (qR rfl rfl (qS 23 rfl (oM · rfl) (qS 24 rfl (oM · rfl) (qS 25 rfl (ok_append (s := x0) (s1 := x2) el57 · rfl rfl ⟨_,tu57⟩ (.tmp rfl) (.tmp rfl) hp4 hp5) (qS 6 rfl (oA · rfl) (rE ?_)))))))
   cases h
   exact q_ret rfl at_.at_ rfl (res1 rfl rfl) ⟨rfl,rfl⟩
  ·refine q_cond_f rfl (.tmp rfl) (decide_eq_false hc3) (q_skipc rfl (qQ rfl (qQ rfl (qR rfl rfl (qS 26 rfl (oM · rfl) (qS 27 rfl (oM · rfl) (qS 28 rfl (oB · rfl rfl rfl) (qS 29 rfl (oM · rfl) ?_))))))))
   try dsimp only [w0,w1,w2,w3]
   obtain ⟨p6,hp6,h⟩ := bindo h
   refine qS 30 rfl (ok_cap (s := x0) · rfl tu57 (.tmp rfl) hp6) (qS 31 rfl (oB · rfl rfl rfl) (rE ?_))
   try dsimp only [w0,w1,w2,w3]
   rcases ifc h with ⟨hc7,h⟩ | ⟨hc7,h⟩
   ·obtain ⟨p8,hp8,h⟩ := bindo h
    refine q_cond_t rfl (.tmp rfl) (decide_eq_true hc7) (qQ rfl (qR rfl rfl (qS 32 rfl (oM · rfl) (qS 33 rfl (oM · rfl) (qS 34 rfl (ok_slice (kl := .i64) (kh := .i64) (s := x0) (l := 0) (h := x1) · tu57 si9 (.tmp rfl) (.inl ⟨rfl,rfl⟩) (.inr ⟨_,rfl,(.tmp rfl)⟩) hp8) (qS 35 rfl (oM · rfl) ?_))))))
    try dsimp only [w0,w1,w2,w3]
    refine qS 36 rfl (oM · rfl) (qS 37 rfl (oB · rfl rfl rfl) (qS 38 rfl (oM · rfl) (qS 39 rfl (oB · rfl rfl rfl) ?_)))
    try dsimp only [w0,w1,w2,w3]
    obtain ⟨p9,hp9,h⟩ := bindo h
    refine qS 40 rfl (ok_append_zeros (s := p8) el57 · rfl rfl tu3 (.tmp rfl) (.tmp rfl) hp9) (qS 9 rfl (oA · rfl) (rE ?_))
    try dsimp only [w0,w1,w2,w3]
    obtain ⟨p10,hp10,h⟩ := bindo h
    refine qQ rfl (qR rfl rfl (qS 41 rfl (oM · rfl) (qS 42 rfl (oM · rfl) (qS 43 rfl (ok_slice (kl := .i64) (kh := .i64) (s := (p9.1)) (l := x1) (h := (Sl.len (p9.1) : Int)) · tu57 si9 (.tmp rfl) (.inr ⟨_,rfl,(.tmp rfl)⟩) (.inl ⟨rfl,rfl⟩) hp10) (qS 44 rfl (oM · rfl) ?_)))))
    try dsimp only [w0,w1,w2,w3]
    obtain ⟨p11,hp11,h⟩ := bindo h
    obtain ⟨p12,hp12,h⟩ := bindo h
    refine qS 45 rfl (ok_copy (s := p10) (s1 := x2) el57 · rfl (.tmp rfl) (.tmp rfl) hp11 hp12) (rE ?_)
    try dsimp only [w0,w1,w2,w3]
    refine qQ rfl ?_
    refine x_start (cls := [0,0,0,0,1,0,0,1,2]) (rk := [0,1,2,3,4,5,6,7,8]) rfl (by kernel_rfl) ?_
    refine yf 46 [9] rfl (oM · rfl) ?_
    refine yf 47 [1] rfl (oM · rfl) ?_
    refine yf 48 [7] rfl (oM · rfl) ?_
    refine yf 49 [47,48] rfl (oB · rfl rfl rfl) ?_
    try dsimp only [w0,w1,w2,w3]
    obtain ⟨p13,hp13,h⟩ := bindo h
    refine yr 50 [46,49] rfl (ok_slice (kl := .i64) (kh := .i64) (s := (p9.1)) (l := (w64 (x1 + (Sl.len x2 : Int)))) (h := (Sl.len (p9.1) : Int)) · tu57 si9 (.tmp rfl) (.inr ⟨_,rfl,(.tmp rfl)⟩) (.inl ⟨rfl,rfl⟩) hp13) ?_
    refine yf 51 [0] rfl (oM · rfl) ?_
    refine yf 52 [1] rfl (oM · rfl) ?_
    obtain ⟨p14,hp14,h⟩ := bindo h
    refine yr 53 [51,52] rfl (ok_slice (kl := .i64) (kh := .i64) (s := x0) (l := x1) (h := (Sl.len x0 : Int)) · tu57 si9 (.tmp rfl) (.inr ⟨_,rfl,(.tmp rfl)⟩) (.inl ⟨rfl,rfl⟩) hp14) ?_
    try dsimp only [w0,w1,w2,w3]
    obtain ⟨p15,hp15,h⟩ := bindo h
    obtain ⟨p16,hp16,h⟩ := bindo h
    refine ye 54 [50,53] rfl (ok_copy (s := p13) (s1 := p14) el57 · rfl (.tmp rfl) (.tmp rfl) hp15 hp16) ?_
    refine x_rest rfl ?_
    refine rE ?_
    try dsimp only [w0,w1,w2,w3]
    refine qQ rfl (qR rfl rfl (qS 55 rfl (oM · rfl) (qS 6 rfl (oA · rfl) (rE ?_))))
    cases h
    exact q_ret rfl at_.at_ rfl (res1 rfl rfl) ⟨rfl,rfl⟩
   ·refine q_cond_f rfl (.tmp rfl) (decide_eq_false hc7) (q_skipc rfl (qQ rfl (qR rfl rfl (qS 56 rfl (oM · rfl) (qS 57 rfl (oM · rfl) (qS 58 rfl (oM · rfl) (qS 59 rfl (oB · rfl rfl rfl) ?_)))))))
    try dsimp only [w0,w1,w2,w3]
    obtain ⟨p17,hp17,h⟩ := bindo h
    refine qS 60 rfl (ok_slice (kl := .i64) (kh := .i64) (s := x0) (l := 0) (h := (w64 ((Sl.len x0 : Int) + (Sl.len x2 : Int)))) · tu57 si9 (.tmp rfl) (.inl ⟨rfl,rfl⟩) (.inr ⟨_,rfl,(.tmp rfl)⟩) hp17) (qS 0 rfl (oA · rfl) (rE ?_))
    try dsimp only [w0,w1,w2,w3]
    refine qQ rfl (qQ rfl (qR rfl rfl (qS 61 rfl (oM · rfl) (qS 62 rfl (oM · rfl) (qS 63 rfl (oM · rfl) (qS 64 rfl (oM · rfl) ?_))))))
    try dsimp only [w0,w1,w2,w3]
    obtain ⟨p18,hp18,h⟩ := bindo h
    obtain ⟨p19,hp19,h⟩ := bindo h
    refine qS 65 rfl (oB · rfl rfl rfl) (qS 66 rfl (ok_slice (kl := .i64) (kh := .i64) (s := p17) (l := (w64 (x1 + (Sl.len x2 : Int)))) (h := (Sl.len p17 : Int)) · tu57 si9 (.tmp rfl) (.inr ⟨_,rfl,(.tmp rfl)⟩) (.inl ⟨rfl,rfl⟩) hp18) (qS 67 rfl (ok_overlaps (s1 := x2) (s2 := p18) · ext133 tu57 si9 (.tmp rfl) (.tmp rfl) hp19) (qS 68 rfl (ok_not · (.tmp rfl)) (rE ?_))))
    try dsimp only [w0,w1,w2,w3]
    rcases ifc h with ⟨hc20,h⟩ | ⟨hc20,h⟩
    ·refine q_cond_t rfl (.tmp rfl) hc20 (qQ rfl ?_)
     refine x_start (cls := [0,0,0,0,1,0,0,1,2]) (rk := [0,1,2,3,4,5,6,7,8]) rfl (by kernel_rfl) ?_
     refine yf 69 [0] rfl (oM · rfl) ?_
     refine yf 70 [1] rfl (oM · rfl) ?_
     refine yf 71 [7] rfl (oM · rfl) ?_
     refine yf 72 [70,71] rfl (oB · rfl rfl rfl) ?_
     try dsimp only [w0,w1,w2,w3]
     obtain ⟨p21,hp21,h⟩ := bindo h
     refine yr 73 [69,72] rfl (ok_slice (kl := .i64) (kh := .i64) (s := p17) (l := (w64 (x1 + (Sl.len x2 : Int)))) (h := (Sl.len p17 : Int)) · tu57 si9 (.tmp rfl) (.inr ⟨_,rfl,(.tmp rfl)⟩) (.inl ⟨rfl,rfl⟩) hp21) ?_
     refine yf 74 [0] rfl (oM · rfl) ?_
     refine yf 75 [1] rfl (oM · rfl) ?_
     obtain ⟨p22,hp22,h⟩ := bindo h
     refine yr 76 [74,75] rfl (ok_slice (kl := .i64) (kh := .i64) (s := p17) (l := x1) (h := (Sl.len p17 : Int)) · tu57 si9 (.tmp rfl) (.inr ⟨_,rfl,(.tmp rfl)⟩) (.inl ⟨rfl,rfl⟩) hp22) ?_
     try dsimp only [w0,w1,w2,w3]
     obtain ⟨p23,hp23,h⟩ := bindo h
     obtain ⟨p24,hp24,h⟩ := bindo h
     refine ye 77 [73,76] rfl (ok_copy (s := p21) (s1 := p22) el57 · rfl (.tmp rfl) (.tmp rfl) hp23 hp24) ?_
     refine x_rest rfl ?_
     refine rE ?_
     try dsimp only [w0,w1,w2,w3]
     obtain ⟨p25,hp25,h⟩ := bindo h
     refine qQ rfl (qR rfl rfl (qS 78 rfl (oM · rfl) (qS 79 rfl (oM · rfl) (qS 80 rfl (ok_slice (kl := .i64) (kh := .i64) (s := p17) (l := x1) (h := (Sl.len p17 : Int)) · tu57 si9 (.tmp rfl) (.inr ⟨_,rfl,(.tmp rfl)⟩) (.inl ⟨rfl,rfl⟩) hp25) (qS 81 rfl (oM · rfl) ?_)))))
     try dsimp only [w0,w1,w2,w3]
     obtain ⟨p26,hp26,h⟩ := bindo h
     obtain ⟨p27,hp27,h⟩ := bindo h
     refine qS 82 rfl (ok_copy (s := p25) (s1 := x2) el57 · rfl (.tmp rfl) (.tmp rfl) hp26 hp27) (rE ?_)
     try dsimp only [w0,w1,w2,w3]
     refine qQ rfl (qR rfl rfl (qS 83 rfl (oM · rfl) (qS 6 rfl (oA · rfl) (rE ?_))))
     cases h
     exact q_ret rfl at_.at_ rfl (res1 rfl rfl) ⟨rfl,rfl⟩
    ·obtain ⟨p28,hp28,h⟩ := bindo h
     refine q_cond_f rfl (.tmp rfl) (bfalse hc20) (q_skipc rfl (qQ rfl (qR rfl rfl (qS 84 rfl (oM · rfl) (qS 85 rfl (oM · rfl) (qS 86 rfl (ok_slice (kl := .i64) (kh := .i64) (s := p17) (l := (Sl.len x0 : Int)) (h := (Sl.len p17 : Int)) · tu57 si9 (.tmp rfl) (.inr ⟨_,rfl,(.tmp rfl)⟩) (.inl ⟨rfl,rfl⟩) hp28) (qS 87 rfl (oM · rfl) ?_)))))))
     try dsimp only [w0,w1,w2,w3]
     obtain ⟨p29,hp29,h⟩ := bindo h
     obtain ⟨p30,hp30,h⟩ := bindo h
     refine qS 88 rfl (ok_copy (s := p28) (s1 := x2) el57 · rfl (.tmp rfl) (.tmp rfl) hp29 hp30) (rE ?_)
     try dsimp only [w0,w1,w2,w3]
     obtain ⟨p31,hp31,h⟩ := bindo h
     refine qQ rfl (qR rfl rfl (qS 89 rfl (oM · rfl) (qS 90 rfl (oM · rfl) (qS 91 rfl (ok_slice (kl := .i64) (kh := .i64) (s := p17) (l := x1) (h := (Sl.len p17 : Int)) · tu57 si9 (.tmp rfl) (.inr ⟨_,rfl,(.tmp rfl)⟩) (.inl ⟨rfl,rfl⟩) hp31) (qS 92 rfl (oM · rfl) ?_)))))
     try dsimp only [w0,w1,w2,w3]
     obtain ⟨p32,hp32,h⟩ := bindo h
     refine q_call (dst := some 93) rfl (.func _) (.cons (.tmp rfl) (.cons (.tmp rfl) Evs.nil)) (HInv.static slices_rotateRight_string.at_ slices_rotateRight_string.body (slices_rotateRight_string.snd  hp32)) ?_
     rintro _ _ ⟨rfl,rfl⟩
     refine rE ?_
     try dsimp only [w0,w1,w2,w3]
     refine qQ rfl (qR rfl rfl (qS 94 rfl (oM · rfl) (qS 6 rfl (oA · rfl) (rE ?_))))
     cases h
     exact q_ret rfl at_.at_ rfl (res1 rfl rfl) ⟨rfl,rfl⟩
end slices_Insert_string_string
namespace slices_Insert_string_string_w
theorem at_ : FnAt Tryz.prog 126 Tryz.f126 := slices_Insert_string_string.at_
theorem body : Tryz.f126.body = some slices_Insert_string_string.c0 := slices_Insert_string_string.body
def f (x0 : Sl) (x1 : Int) (x2 : Sl) (S : HS) : Option ((Sl) × HS) := HS.ins S x0 x1 x2 1
theorem snd {base : Nat} {W0 : World} {β0 : Bt} {x0 : Sl} {x1 : Int} {x2 : Sl} {S : HS} {p : (Sl) × HS} (h : f x0 x1 x2 S = some p) : HCall Tryz.prog base W0 β0 126 [(Sl.hv x0),(.int .i64 x1),(Sl.hv x2)] S (fun v S1 => v = (Sl.hv p.1) ∧ S1 = p.2) :=
 ins_snd (rot := fun a b T => slices_rotateRight_string.f 0 a b T) (zr := [(.str [])]) (fun _ _ _ h => slices_Insert_string_string.snd (k := 0) h) h
end slices_Insert_string_string_w
namespace set_Set_string_Add
theorem at_ : FnAt Tryz.prog 107 Tryz.f107 := ⟨Tryz.func107,by kernel_rfl⟩
def d0 := (Tryz.f107.body).getD .skip
def r1 := kR (kA d0)
def r3 := kR (kA (kB d0))
def r6 := kR (kA (kA (kB (kB d0))))
def r9 := kR (kA (kA (kB (kA (kB (kB d0))))))
def d12 := kB (kB (kB d0))
def r14 := kR (kA (kA d12))
def d16 := kA (kB (kA d12))
def r18 := kR (kA (kA d16))
def d23 := kB (kB (kA d16))
def r26 := kR (kA (kA (kA d23)))
def d27 := kB (kA (kA d23))
def r28 := kR (kA d27)
def r30 := kR (kA (kB d27))
def r33 := kR (kA (kA (kB (kB d27))))
def r34 := kR (kB (kA (kB (kB d27))))
def r36 := kR (kB d23)
def r38 := kR (kA (kB d12))
def c37 : Code := .seq (.region 12 r38 false) .ret
def c36 : Code := .region 11 r36 false
def c17 : Code := .seq (.region 5 r18 false) (.seq (.cond (.tmp 15) .skip (.exit 0)) (.seq (.block 1 (.seq (.region 6 r26 false) (.seq (.region 7 r28 false) (.seq (.region 8 r30 false) (.cond (.tmp 28) (.seq (.region 9 r33 false) (.region 10 r34 false)) .skip))))) c36))
def c0 : Code := .seq (.region 0 r1 false) (.seq (.region 1 r3 false) (.seq (.seq (.region 2 r6 false) (.cond (.tmp 11) (.seq (.region 3 r9 false) .ret) .skip)) (.seq (.seq (.region 4 r14 false) (.block 0 (.loop c17))) c37)))
theorem body : Tryz.f107.body = some c0 := by kernel_rfl
def J1 (k : Nat) (rec0 : HP → Int → Sl → Int → Int → HS → Option ((Int) × HS)) (y0 : HP) (y5 : Int) (y12 : Sl) (y13 : Int) (y14 : Int) (S : HS) : Option ((Int) × HS) :=
 rec0 y0 y5 y12 y13 (w64 (y14 + 1)) S
theorem J1_snd {rec0 : HP → Int → Sl → Int → Int → HS → Option ((Int) × HS)} (hrec0 : ∀ ⦃y0 : HP⦄ ⦃y5 : Int⦄ ⦃y12 : Sl⦄ ⦃y13 : Int⦄ ⦃y14 : Int⦄ ⦃S : HS⦄ ⦃p : (Int) × HS⦄ ⦃Gb Gc Gd Ge Gg Gh Gi Gj Gk Gl Gp Gq Gr Gs Gt Gu Gv Gw Gx Gy Gz Ka Kb Kc Kd Ke Kf Kg Kh Ki Kj Kk Kl Km Kn Ko Kp Kq Kr : HV⦄,rec0 y0 y5 y12 y13 y14 S = some p → HR base W0 β0 107 none [.inLoop c17,.inBlock 0,.code c37] ⟨[(.ptr y0),Gb,Gc,Gd,Ge,(.int .i64 y5),Gg,Gh,Gi,Gj,Gk,Gl,(Sl.hv y12),(.int .i64 y13),(.int .i64 y14),Gp,Gq,Gr,Gs,Gt,Gu,Gv,Gw,Gx,Gy,Gz,Ka,Kb,Kc,Kd,Ke,Kf,Kg,Kh,Ki,Kj,Kk,Kl,Km,Kn,Ko,Kp,Kq,Kr],[]⟩ S (fun v S1 => v = (.int .i64 p.1) ∧ S1 = p.2)) {y0 : HP} {y5 : Int} {y12 : Sl} {y13 : Int} {y14 : Int} {S : HS} {p : (Int) × HS} (h : J1 k rec0 y0 y5 y12 y13 y14 S = some p) : HR base W0 β0 107 none [.code c36,.inLoop c17,.inBlock 0,.code c37] ⟨[(.ptr y0),Gb,Gc,Gd,Ge,(.int .i64 y5),Gg,Gh,Gi,Gj,Gk,Gl,(Sl.hv y12),(.int .i64 y13),(.int .i64 y14),Gp,Gq,Gr,Gs,Gt,Gu,Gv,Gw,Gx,Gy,Gz,Ka,Kb,Kc,Kd,Ke,Kf,Kg,Kh,Ki,Kj,Kk,Kl,Km,Kn,Ko,Kp,Kq,Kr],[]⟩ S (fun v S1 => v = (.int .i64 p.1) ∧ S1 = p.2) := by
 unfold J1 at h
 refine qR rfl rfl (qS 42 rfl (oC · rfl rfl) (qS 14 rfl (oM · rfl) (rE ?_)))
 try dsimp only [w0,w1,w2,w3]
 exact hrec0 h
def L0 (k : Nat) : Nat → HP → Int → Sl → Int → Int → HS → Option ((Int) × HS)
 | 0,_,_,_,_,_,_ => none
 | n + 1,y0,y5,y12,y13,y14,S =>
  (if y14 < y13 then
  ((S.idx y12 y14 1).bind fun p3 =>
  ((S.ldS p3).bind fun p4 =>
  (y0.bind fun p5 =>
  ((S.ldSl (HA.fld p5 0)).bind fun p6 =>
  ((slices_BinarySearch_string_string.f k p6 p4 S).bind fun p7 =>
  (if (!p7.1.2) = true then
  (y0.bind fun p9 =>
  ((p7.2.ldSl (HA.fld p9 0)).bind fun p10 =>
  (letv (HS.lit p7.2 [[(.str p4)]] 1) fun p11 =>
  ((slices_Insert_string_string_w.f p10 p7.1.1 (p11.1) (p11.2)).bind fun p12 =>
  (y0.bind fun p13 =>
  ((p12.2.sets (HA.fld p13 0) [(Sl.hv p12.1)]).bind fun p14 =>
  J1 k (L0 k n) y0 (w64 (y5 + 1)) y12 y13 y14 p14)))))) else
  J1 k (L0 k n) y0 y5 y12 y13 y14 p7.2)))))) else
  some (y5,S))
theorem L0_snd  : ∀ {n : Nat} ⦃y0 : HP⦄ ⦃y5 : Int⦄ ⦃y12 : Sl⦄ ⦃y13 : Int⦄ ⦃y14 : Int⦄ ⦃S : HS⦄ ⦃p : (Int) × HS⦄ ⦃Gb Gc Gd Ge Gg Gh Gi Gj Gk Gl Gp Gq Gr Gs Gt Gu Gv Gw Gx Gy Gz Ka Kb Kc Kd Ke Kf Kg Kh Ki Kj Kk Kl Km Kn Ko Kp Kq Kr : HV⦄,L0 k n y0 y5 y12 y13 y14 S = some p → HR base W0 β0 107 none [.inLoop c17,.inBlock 0,.code c37] ⟨[(.ptr y0),Gb,Gc,Gd,Ge,(.int .i64 y5),Gg,Gh,Gi,Gj,Gk,Gl,(Sl.hv y12),(.int .i64 y13),(.int .i64 y14),Gp,Gq,Gr,Gs,Gt,Gu,Gv,Gw,Gx,Gy,Gz,Ka,Kb,Kc,Kd,Ke,Kf,Kg,Kh,Ki,Kj,Kk,Kl,Km,Kn,Ko,Kp,Kq,Kr],[]⟩ S (fun v S1 => v = (.int .i64 p.1) ∧ S1 = p.2) := by
 intro n
 induction n with
 | zero => intro _ _ _ _ _ _ _ _ _ _ _ _ _ _ _ _ _ _ _ _ _ _ _ _ _ _ _ _ _ _ _ _ _ _ _ _ _ _ _ _ _ _ _ _ _ _ h; cases h
 | succ n ih =>
  intro y0 y5 y12 y13 y14 S p Gb Gc Gd Ge Gg Gh Gi Gj Gk Gl Gp Gq Gr Gs Gt Gu Gv Gw Gx Gy Gz Ka Kb Kc Kd Ke Kf Kg Kh Ki Kj Kk Kl Km Kn Ko Kp Kq Kr h
  simp only [L0] at h
  refine hr_inLoop (qQ rfl (qR rfl rfl (qS 15 rfl (oB · rfl rfl rfl) (rE ?_))))
  try dsimp only [w0,w1,w2,w3]
  refine qQ rfl ?_
  rcases ifc h with ⟨hc2,h⟩ | ⟨hc2,h⟩
  ·obtain ⟨p3,hp3,h⟩ := bindo h
   obtain ⟨p4,hp4,h⟩ := bindo h
   refine q_cond_t rfl (.tmp rfl) (decide_eq_true hc2) (q_skipc rfl (qQ rfl (q_block rfl (qQ rfl (qR rfl rfl (qS 16 rfl (oX (s := y12) · tu57 sz9 rfl rfl hp3) (qS 17 rfl (oL · sc9 rfl rfl (ldS_out hp4)) (qS 7 rfl (oA · rfl) (rE ?_)))))))))
   try dsimp only [w0,w1,w2,w3]
   obtain ⟨p5,hp5,h⟩ := bindo h
   obtain ⟨p6,hp6,h⟩ := bindo h
   refine qQ rfl (qR rfl rfl (qS 19 rfl (oM · rfl) (qS 20 rfl (oN · rfl hp5) (qS 21 rfl (oF · fi159_0 (by decide) rfl rfl) (qS 22 rfl (oL · sc57 rfl rfl (ldSl_out hp6)) ?_)))))
   try dsimp only [w0,w1,w2,w3]
   obtain ⟨p7,hp7,h⟩ := bindo h
   refine qS 23 rfl (oM · rfl) (q_call (dst := some 24) rfl (.func _) (.cons (.tmp rfl) (.cons (.tmp rfl) Evs.nil)) (HInv.static slices_BinarySearch_string_string.at_ slices_BinarySearch_string_string.body (slices_BinarySearch_string_string.snd  hp7)) ?_)
   rintro _ _ ⟨rfl,rfl⟩
   refine qS 18 rfl (oM · rfl) (qS 25 rfl (ok_extract · (.tmp rfl) rfl) ?_)
   try dsimp only [w0,w1,w2,w3]
   refine qS 26 rfl (ok_extract · (.tmp rfl) rfl) (qS 8 rfl (oA · rfl) (qS 9 rfl (oA · rfl) (rE ?_)))
   try dsimp only [w0,w1,w2,w3]
   refine qQ rfl (qR rfl rfl (qS 27 rfl (oM · rfl) (qS 28 rfl (ok_not · (.tmp rfl)) (rE ?_))))
   try dsimp only [w0,w1,w2,w3]
   rcases ifc h with ⟨hc8,h⟩ | ⟨hc8,h⟩
   ·obtain ⟨p9,hp9,h⟩ := bindo h
    refine q_cond_t rfl (.tmp rfl) hc8 (qQ rfl (qR rfl rfl (qS 29 rfl (oM · rfl) (qS 30 rfl (oM · rfl) (qS 31 rfl (oN · rfl hp9) (qS 32 rfl (oF · fi159_0 (by decide) rfl rfl) ?_))))))
    try dsimp only [w0,w1,w2,w3]
    obtain ⟨p10,hp10,h⟩ := bindo h
    obtain ⟨p11,hp11,h⟩ := leto h
    refine qS 33 rfl (oL · sc57 rfl rfl (ldSl_out hp10)) (qS 34 rfl (oM · rfl) (qS 35 rfl (oM · rfl) (qS 36 rfl (ok_buildSlice_s (xs := [(.tmp 35)]) el57 · rfl rfl (by decide) (.cons (.tmp rfl) Evs.nil) rfl rfl hp11) ?_)))
    try dsimp only [w0,w1,w2,w3]
    obtain ⟨p12,hp12,h⟩ := bindo h
    refine q_call (dst := some 37) rfl (.func _) (.cons (.tmp rfl) (.cons (.tmp rfl) (.cons (.tmp rfl) Evs.nil))) (HInv.static slices_Insert_string_string_w.at_ slices_Insert_string_string_w.body (slices_Insert_string_string_w.snd  hp12)) ?_
    rintro _ _ ⟨rfl,rfl⟩
    obtain ⟨p13,hp13,h⟩ := bindo h
    obtain ⟨p14,hp14,h⟩ := bindo h
    refine qS 38 rfl (oN · rfl hp13) (qS 39 rfl (oF · fi159_0 (by decide) rfl rfl) (qN rfl (ok_store_s (v := (Sl.hv p12.1)) · sz57 (.tmp rfl) rfl (.tmp rfl) rfl hp14) (rE ?_)))
    try dsimp only [w0,w1,w2,w3]
    refine qR rfl rfl (qS 40 rfl (oM · rfl) (qS 41 rfl (oC · rfl rfl) (qS 5 rfl (oA · rfl) (rE ?_))))
    try dsimp only [w0,w1,w2,w3]
    refine hr_inBlock ?_
    try dsimp only [w0,w1,w2,w3]
    exact J1_snd ih h
   ·refine q_cond_f rfl (.tmp rfl) (bfalse hc8) (q_skipc rfl (hr_inBlock ?_))
    try dsimp only [w0,w1,w2,w3]
    exact J1_snd ih h
  ·refine q_cond_f rfl (.tmp rfl) (decide_eq_false hc2) (q_exit rfl rfl (qQ rfl (qR rfl rfl (qS 43 rfl (oM · rfl) (qS 4 rfl (oA · rfl) (rE ?_))))))
   cases h
   exact q_ret rfl at_.at_ rfl (res1 rfl rfl) ⟨rfl,rfl⟩
def f (k : Nat) (x0 : HP) (x1 : Sl) (S : HS) : Option ((Int) × HS) :=
 (if (Option.isNone x0) = true then
 some (0,S) else
 L0 k k x0 0 x1 (Sl.len x1 : Int) 0 S)
theorem snd {x0 : HP} {x1 : Sl} {S : HS}  {p : (Int) × HS} (h : f k x0 x1 S = some p) : HCall Tryz.prog base W0 β0 107 [(.ptr x0),(Sl.hv x1)] S (fun v S1 => v = (.int .i64 p.1) ∧ S1 = p.2) := by
 unfold f at h
 refine HCall.of_run at_.at_ body ?_
 show HR base W0 β0 107 none [.code c0] ⟨[(.ptr x0),(Sl.hv x1),τ,τ,τ,τ,τ,τ,τ,τ,τ,τ,τ,τ,τ,τ,τ,τ,τ,τ,τ,τ,τ,τ,τ,τ,τ,τ,τ,τ,τ,τ,τ,τ,τ,τ,τ,τ,τ,τ,τ,τ,τ,τ],[]⟩ S _
 refine qQ rfl (qR rfl rfl (qS 4 rfl (ok_assign · (.int _ _)) (rE ?_)))
 try dsimp only [w0,w1,w2,w3]
 refine qQ rfl (qR rfl rfl (qS 5 rfl (ok_assign · (.int _ _)) (rE ?_)))
 try dsimp only [w0,w1,w2,w3]
 refine qQ rfl (qQ rfl (qR rfl rfl (qS 10 rfl (oM · rfl) (qS 11 rfl (ok_nil_ptr · tu134 (.tmp rfl) (.inl ⟨rfl,rfl⟩)) (rE ?_)))))
 try dsimp only [w0,w1,w2,w3]
 rcases ifc h with ⟨hc1,h⟩ | ⟨hc1,h⟩
 ·refine q_cond_t rfl (.tmp rfl) hc1 (qQ rfl (qR rfl rfl (qS 4 rfl (ok_assign · (.int _ _)) (rE ?_))))
  cases h
  exact q_ret rfl at_.at_ rfl (res1 rfl rfl) ⟨rfl,rfl⟩
 ·refine q_cond_f rfl (.tmp rfl) (bfalse hc1) (q_skipc rfl (qQ rfl (qQ rfl (qR rfl rfl (qS 12 rfl (oM · rfl) (qS 13 rfl (ok_len_sl (q := Sl.a x1) (n := Sl.len x1) (z := Sl.cap x1) · rfl tu57 (.tmp rfl)) (qS 14 rfl (ok_move · (.int _ _)) (rE ?_))))))))
  try dsimp only [w0,w1,w2,w3]
  refine q_block rfl (q_loop rfl ?_)
  try dsimp only [w0,w1,w2,w3]
  exact L0_snd  h
end set_Set_string_Add
namespace set_Of_string
theorem at_ : FnAt Tryz.prog 106 Tryz.f106 := ⟨Tryz.func106,by kernel_rfl⟩
def d0 := (Tryz.f106.body).getD .skip
def r1 := kR (kA d0)
def r3 := kR (kA (kB d0))
def r5 := kR (kA (kB (kB d0)))
def r7 := kR (kA (kB (kB (kB d0))))
def c0 : Code := .seq (.region 0 r1 false) (.seq (.region 1 r3 false) (.seq (.region 2 r5 false) (.seq (.region 3 r7 false) .ret)))
theorem body : Tryz.f106.body = some c0 := by kernel_rfl
def f (k : Nat) (x0 : Sl) (S : HS) : Option ((HP) × HS) :=
 (letv (HS.new S (.cells 1 [[(Sl.hv Sl.nil)]] true)) fun p1 =>
 ((set_Set_string_Add.f k (some (HA.cell0 S.next)) x0 p1).bind fun p2 =>
 some ((some (HA.cell0 S.next)),p2.2)))
theorem snd {x0 : Sl} {S : HS}  {p : (HP) × HS} (h : f k x0 S = some p) : HCall Tryz.prog base W0 β0 106 [(Sl.hv x0)] S (fun v S1 => v = (.ptr p.1) ∧ S1 = p.2) := by
 unfold f at h
 refine HCall.of_run at_.at_ body ?_
 show HR base W0 β0 106 none [.code c0] ⟨[(Sl.hv x0),τ,τ,τ,τ,τ,τ,τ,τ,τ],[]⟩ S _
 refine qQ rfl (qR rfl rfl (qS 2 rfl (ok_assign · (.const fun _ => .ptrNil)) (rE ?_)))
 try dsimp only [w0,w1,w2,w3]
 obtain ⟨p1,hp1,h⟩ := leto h
 refine qQ rfl (qR rfl rfl (qS 4 rfl (ok_build (is := []) (xs := []) (r := [(Sl.hv Sl.nil)]) st159 · rfl rfl Evs.nil rfl) (qS 5 rfl (ok_box_e · (.tmp rfl) (Nat.zero_lt_succ _) rfl hp1) (qS 3 rfl (oA · rfl) (rE ?_)))))
 try dsimp only [w0,w1,w2,w3]
 obtain ⟨p2,hp2,h⟩ := bindo h
 refine qQ rfl (qR rfl rfl (qS 6 rfl (oM · rfl) (qS 7 rfl (oM · rfl) (q_call (dst := some 8) rfl (.func _) (.cons (.tmp rfl) (.cons (.tmp rfl) Evs.nil)) (HInv.static set_Set_string_Add.at_ set_Set_string_Add.body (set_Set_string_Add.snd  hp2)) ?_))))
 rintro _ _ ⟨rfl,rfl⟩
 refine rE ?_
 try dsimp only [w0,w1,w2,w3]
 refine qQ rfl (qR rfl rfl (qS 9 rfl (oM · rfl) (qS 2 rfl (oA · rfl) (rE ?_))))
 cases h
 exact q_ret rfl at_.at_ rfl (res1 rfl rfl) ⟨rfl,rfl⟩
end set_Of_string
namespace pair_put_int_string
theorem at_ : FnAt Tryz.prog 75 Tryz.f75 := ⟨Tryz.func75,by kernel_rfl⟩
def d0 := (Tryz.f75.body).getD .skip
def r2 := kR (kA (kA d0))
def r4 := kR (kA (kB (kA d0)))
def r6 := kR (kB d0)
def c6 : Code := .region 2 r6 false
def c0 : Code := .seq (.seq (.region 0 r2 false) (.cond (.tmp 9) (.region 1 r4 false) .skip)) c6
theorem body : Tryz.f75.body = some c0 := by kernel_rfl
def J0 (k : Nat) (y0 : (Option Nat)) (y1 : Int) (y2 : (List UInt8)) (S : HS) : Option ((Unit) × HS) :=
 ((S.look y0 (.int .i64 y1)).bind fun p6 =>
 ((dP (Option.getD p6 (.ptr none))).bind fun p7 =>
 (letv (HS.lit S [[(.str y2)]] 1) fun p8 =>
 ((set_Set_string_Add.f k p7 (p8.1) (p8.2)).bind fun p9 =>
 some ((),p9.2)))))
theorem J0_snd  {y0 : (Option Nat)} {y1 : Int} {y2 : (List UInt8)} {S : HS} {p : (Unit) × HS} (h : J0 k y0 y1 y2 S = some p) : HR base W0 β0 75 none [.code c6] ⟨[(.map y0),(.int .i64 y1),(.str y2),Gd,Ge,Gf,Gg,Gh,Gi,Gj,Gk,Gl,Gm,Gn,Go,Gp,Gq,Gr,Gs],[]⟩ S (fun v S1 => v = (.tup []) ∧ S1 = p.2) := by
 unfold J0 at h
 obtain ⟨p6,hp6,h⟩ := bindo h
 obtain ⟨p7,hp7,h⟩ := bindo h
 refine qR rfl rfl (qS 13 rfl (oM · rfl) (qS 14 rfl (oM · rfl) (qS 15 rfl (ok_lookup · tu121 zi134 (fun β => .ptrNil) (keyInt tu3) (.tmp rfl) (.tmp rfl) hp6 (dP_out hp7)) (qS 16 rfl (oM · rfl) ?_))))
 try dsimp only [w0,w1,w2,w3]
 obtain ⟨p8,hp8,h⟩ := leto h
 obtain ⟨p9,hp9,h⟩ := bindo h
 refine qS 17 rfl (ok_buildSlice_s (xs := [(.tmp 16)]) el57 · rfl rfl (by decide) (.cons (.tmp rfl) Evs.nil) rfl rfl hp8) (q_call (dst := some 18) rfl (.func _) (.cons (.tmp rfl) (.cons (.tmp rfl) Evs.nil)) (HInv.static set_Set_string_Add.at_ set_Set_string_Add.body (set_Set_string_Add.snd  hp9)) ?_)
 rintro _ _ ⟨rfl,rfl⟩
 refine rE ?_
 try dsimp only [w0,w1,w2,w3]
 cases h
 exact q_end at_.at_ rfl (res0 rfl) ⟨rfl,rfl⟩
def f (k : Nat) (x0 : (Option Nat)) (x1 : Int) (x2 : (List UInt8)) (S : HS) : Option ((Unit) × HS) :=
 ((S.look x0 (.int .i64 x1)).bind fun p1 =>
 ((dP (Option.getD p1 (.ptr none))).bind fun p2 =>
 (if (Option.isNone p2) = true then
 ((set_Of_string.f k Sl.nil S).bind fun p4 =>
 ((p4.2.mput x0 (.int .i64 x1) (.ptr p4.1)).bind fun p5 =>
 J0 k x0 x1 x2 p5)) else
 J0 k x0 x1 x2 S)))
theorem snd {x0 : (Option Nat)} {x1 : Int} {x2 : (List UInt8)} {S : HS}  {p : (Unit) × HS} (h : f k x0 x1 x2 S = some p) : HCall Tryz.prog base W0 β0 75 [(.map x0),(.int .i64 x1),(.str x2)] S (fun v S1 => v = (.tup []) ∧ S1 = p.2) := by
 unfold f at h
 refine HCall.of_run at_.at_ body ?_
 show HR base W0 β0 75 none [.code c0] ⟨[(.map x0),(.int .i64 x1),(.str x2),τ,τ,τ,τ,τ,τ,τ,τ,τ,τ,τ,τ,τ,τ,τ,τ],[]⟩ S _
 obtain ⟨p1,hp1,h⟩ := bindo h
 obtain ⟨p2,hp2,h⟩ := bindo h
 refine qQ rfl (qQ rfl (qR rfl rfl (qS 6 rfl (oM · rfl) (qS 7 rfl (oM · rfl) (qS 8 rfl (ok_lookup · tu121 zi134 (fun β => .ptrNil) (keyInt tu3) (.tmp rfl) (.tmp rfl) hp1 (dP_out hp2)) (qS 9 rfl (ok_nil_ptr · tu134 (.tmp rfl) (.inl ⟨rfl,rfl⟩)) (rE ?_)))))))
 try dsimp only [w0,w1,w2,w3]
 rcases ifc h with ⟨hc3,h⟩ | ⟨hc3,h⟩
 ·obtain ⟨p4,hp4,h⟩ := bindo h
  refine q_cond_t rfl (.tmp rfl) hc3 (qR rfl rfl (qS 10 rfl (oM · rfl) (qS 11 rfl (oM · rfl) (q_call (dst := some 12) rfl (.func _) (.cons (.const fun _ => .slNil none) Evs.nil) (HInv.static set_Of_string.at_ set_Of_string.body (set_Of_string.snd  hp4)) ?_))))
  rintro _ _ ⟨rfl,rfl⟩
  obtain ⟨p5,hp5,h⟩ := bindo h
  refine qN rfl (ok_mapUpdate · tu121 (keyInt tu3) (.tmp rfl) (.tmp rfl) (.tmp rfl) hp5) (rE ?_)
  try dsimp only [w0,w1,w2,w3]
  exact J0_snd  h
 ·refine q_cond_f rfl (.tmp rfl) (bfalse hc3) (q_skipc rfl ?_)
  try dsimp only [w0,w1,w2,w3]
  exact J0_snd  h
end pair_put_int_string
namespace pair_put_string_int
theorem at_ : FnAt Tryz.prog 76 Tryz.f76 := ⟨Tryz.func76,by kernel_rfl⟩
def d0 := (Tryz.f76.body).getD .skip
def r2 := kR (kA (kA d0))
def r4 := kR (kA (kB (kA d0)))
def r6 := kR (kB d0)
def c6 : Code := .region 2 r6 false
def c0 : Code := .seq (.seq (.region 0 r2 false) (.cond (.tmp 9) (.region 1 r4 false) .skip)) c6
theorem body : Tryz.f76.body = some c0 := by kernel_rfl
def J0 (k : Nat) (y0 : (Option Nat)) (y1 : (List UInt8)) (y2 : Int) (S : HS) : Option ((Unit) × HS) :=
 ((S.look y0 (.str y1)).bind fun p6 =>
 ((dP (Option.getD p6 (.ptr none))).bind fun p7 =>
 (letv (HS.lit S [[(.int .i64 y2)]] 1) fun p8 =>
 ((set_Set_int_Add.f k p7 (p8.1) (p8.2)).bind fun p9 =>
 some ((),p9.2)))))
theorem J0_snd  {y0 : (Option Nat)} {y1 : (List UInt8)} {y2 : Int} {S : HS} {p : (Unit) × HS} (h : J0 k y0 y1 y2 S = some p) : HR base W0 β0 76 none [.code c6] ⟨[(.map y0),(.str y1),(.int .i64 y2),Gd,Ge,Gf,Gg,Gh,Gi,Gj,Gk,Gl,Gm,Gn,Go,Gp,Gq,Gr,Gs],[]⟩ S (fun v S1 => v = (.tup []) ∧ S1 = p.2) := by
 unfold J0 at h
 obtain ⟨p6,hp6,h⟩ := bindo h
 obtain ⟨p7,hp7,h⟩ := bindo h
 refine qR rfl rfl (qS 13 rfl (oM · rfl) (qS 14 rfl (oM · rfl) (qS 15 rfl (ok_lookup · tu122 zi96 (fun β => .ptrNil) (keyStr tu9) (.tmp rfl) (.tmp rfl) hp6 (dP_out hp7)) (qS 16 rfl (oM · rfl) ?_))))
 try dsimp only [w0,w1,w2,w3]
 obtain ⟨p8,hp8,h⟩ := leto h
 obtain ⟨p9,hp9,h⟩ := bindo h
 refine qS 17 rfl (ok_buildSlice_s (xs := [(.tmp 16)]) el42 · rfl rfl (by decide) (.cons (.tmp rfl) Evs.nil) rfl rfl hp8) (q_call (dst := some 18) rfl (.func _) (.cons (.tmp rfl) (.cons (.tmp rfl) Evs.nil)) (HInv.static set_Set_int_Add.at_ set_Set_int_Add.body (set_Set_int_Add.snd  hp9)) ?_)
 rintro _ _ ⟨rfl,rfl⟩
 refine rE ?_
 try dsimp only [w0,w1,w2,w3]
 cases h
 exact q_end at_.at_ rfl (res0 rfl) ⟨rfl,rfl⟩
def f (k : Nat) (x0 : (Option Nat)) (x1 : (List UInt8)) (x2 : Int) (S : HS) : Option ((Unit) × HS) :=
 ((S.look x0 (.str x1)).bind fun p1 =>
 ((dP (Option.getD p1 (.ptr none))).bind fun p2 =>
 (if (Option.isNone p2) = true then
 ((set_Of_int.f k Sl.nil S).bind fun p4 =>
 ((p4.2.mput x0 (.str x1) (.ptr p4.1)).bind fun p5 =>
 J0 k x0 x1 x2 p5)) else
 J0 k x0 x1 x2 S)))
theorem snd {x0 : (Option Nat)} {x1 : (List UInt8)} {x2 : Int} {S : HS}  {p : (Unit) × HS} (h : f k x0 x1 x2 S = some p) : HCall Tryz.prog base W0 β0 76 [(.map x0),(.str x1),(.int .i64 x2)] S (fun v S1 => v = (.tup []) ∧ S1 = p.2) := by
 unfold f at h
 refine HCall.of_run at_.at_ body ?_
 show HR base W0 β0 76 none [.code c0] ⟨[(.map x0),(.str x1),(.int .i64 x2),τ,τ,τ,τ,τ,τ,τ,τ,τ,τ,τ,τ,τ,τ,τ,τ],[]⟩ S _
 obtain ⟨p1,hp1,h⟩ := bindo h
 obtain ⟨p2,hp2,h⟩ := bindo h
 refine qQ rfl (qQ rfl (qR rfl rfl (qS 6 rfl (oM · rfl) (qS 7 rfl (oM · rfl) (qS 8 rfl (ok_lookup · tu122 zi96 (fun β => .ptrNil) (keyStr tu9) (.tmp rfl) (.tmp rfl) hp1 (dP_out hp2)) (qS 9 rfl (ok_nil_ptr · tu96 (.tmp rfl) (.inl ⟨rfl,rfl⟩)) (rE ?_)))))))
 try dsimp only [w0,w1,w2,w3]
 rcases ifc h with ⟨hc3,h⟩ | ⟨hc3,h⟩
 ·obtain ⟨p4,hp4,h⟩ := bindo h
  refine q_cond_t rfl (.tmp rfl) hc3 (qR rfl rfl (qS 10 rfl (oM · rfl) (qS 11 rfl (oM · rfl) (q_call (dst := some 12) rfl (.func _) (.cons (.const fun _ => .slNil none) Evs.nil) (HInv.static set_Of_int.at_ set_Of_int.body (set_Of_int.snd  hp4)) ?_))))
  rintro _ _ ⟨rfl,rfl⟩
  obtain ⟨p5,hp5,h⟩ := bindo h
  refine qN rfl (ok_mapUpdate · tu122 (keyStr tu9) (.tmp rfl) (.tmp rfl) (.tmp rfl) hp5) (rE ?_)
  try dsimp only [w0,w1,w2,w3]
  exact J0_snd  h
 ·refine q_cond_f rfl (.tmp rfl) (bfalse hc3) (q_skipc rfl ?_)
  try dsimp only [w0,w1,w2,w3]
  exact J0_snd  h
end pair_put_string_int
namespace pair_Rel_int_string_Add
theorem at_ : FnAt Tryz.prog 47 Tryz.f47 := ⟨Tryz.func47,by kernel_rfl⟩
def d0 := (Tryz.f47.body).getD .skip
def r1 := kR (kA d0)
def d4 := kA (kA (kB d0))
def r5 := kR (kA d4)
def r8 := kR (kA (kA (kB d4)))
def r11 := kR (kA (kB (kB d4)))
def r14 := kR (kA (kA (kB (kB (kB d4)))))
def r17 := kR (kA (kB (kB (kB (kB d4)))))
def r20 := kR (kA (kA (kB (kB (kB (kB (kB d4)))))))
def r24 := kR (kA (kB (kB d0)))
def r26 := kR (kA (kB (kB (kB d0))))
def r28 := kR (kA (kB (kB (kB (kB d0)))))
def r30 := kR (kA (kB (kB (kB (kB (kB d0))))))
def c0 : Code := .seq (.region 0 r1 false) (.seq (.block 0 (.seq (.region 1 r5 false) (.cond (.tmp 7) (.seq (.region 2 r8 false) .ret) (.seq (.region 3 r11 false) (.cond (.tmp 10) (.seq (.region 4 r14 false) .ret) (.seq (.region 5 r17 true) (.cond (.tmp 15) (.seq (.region 6 r20 false) .ret) .skip))))))) (.seq (.region 7 r24 false) (.seq (.region 8 r26 false) (.seq (.region 9 r28 false) (.seq (.region 10 r30 false) .ret)))))
theorem body : Tryz.f47.body = some c0 := by kernel_rfl
def f (k : Nat) (x0 : HP) (x1 : Int) (x2 : (List UInt8)) (S : HS) : Option ((Int) × HS) :=
 (if (Option.isNone x0) = true then
 some (1,S) else
 ((pair_Rel_int_string_Has.f k x0 x1 x2 S).bind fun p2 =>
 (if p2.1 = true then
 some (6,p2.2) else
 ((pair_Rel_int_string_Count.f x0 x1 p2.2).bind fun p4 =>
 (x0.bind fun p5 =>
 ((p4.2.ldI .i64 (HA.fld p5 0)).bind fun p6 =>
 ((p2.2.ldI .i64 (HA.fld p5 0)).bind fun p7 =>
 (if p7 = p6 then
 (if p4.1 ≥ p6 then
 some (7,p4.2) else
 (x0.bind fun p10 =>
 ((p4.2.ldM (HA.fld p10 2)).bind fun p11 =>
 ((pair_put_int_string.f k p11 x1 x2 p4.2).bind fun p12 =>
 (x0.bind fun p13 =>
 ((p12.2.ldM (HA.fld p13 3)).bind fun p14 =>
 ((pair_put_string_int.f k p14 x2 x1 p12.2).bind fun p15 =>
 (x0.bind fun p16 =>
 ((p15.2.ldI .i64 (HA.fld p16 1)).bind fun p17 =>
 (x0.bind fun p18 =>
 ((p15.2.sets (HA.fld p18 1) [(.int .i64 (w64 (p17 + 1)))]).bind fun p19 =>
 some (0,p19)))))))))))) else none))))))))
theorem snd {x0 : HP} {x1 : Int} {x2 : (List UInt8)} {S : HS}  {p : (Int) × HS} (h : f k x0 x1 x2 S = some p) : HCall Tryz.prog base W0 β0 47 [(.ptr x0),(.int .i64 x1),(.str x2)] S (fun v S1 => v = (.int .i64 p.1) ∧ S1 = p.2) := by
 unfold f at h
 refine HCall.of_run at_.at_ body ?_
 show HR base W0 β0 47 none [.code c0] ⟨[(.ptr x0),(.int .i64 x1),(.str x2),τ,τ,τ,τ,τ,τ,τ,τ,τ,τ,τ,τ,τ,τ,τ,τ,τ,τ,τ,τ,τ,τ,τ,τ,τ,τ,τ,τ,τ,τ,τ,τ,τ,τ,τ,τ,τ,τ,τ,τ,τ,τ],[]⟩ S _
 refine qQ rfl (qR rfl rfl (qS 6 rfl (ok_assign · (.int _ _)) (rE ?_)))
 try dsimp only [w0,w1,w2,w3]
 refine qQ rfl (q_block rfl (qQ rfl (qR rfl rfl (qS 8 rfl (oM · rfl) (qS 9 rfl (ok_nil_ptr · tu79 (.tmp rfl) (.inl ⟨rfl,rfl⟩)) (qS 7 rfl (oA · rfl) (rE ?_)))))))
 try dsimp only [w0,w1,w2,w3]
 rcases ifc h with ⟨hc1,h⟩ | ⟨hc1,h⟩
 ·refine q_cond_t rfl (.tmp rfl) hc1 (qQ rfl (qR rfl rfl (qS 6 rfl (ok_assign · (.int _ _)) (rE ?_))))
  cases h
  exact q_ret rfl at_.at_ rfl (res1 rfl rfl) ⟨rfl,rfl⟩
 ·obtain ⟨p2,hp2,h⟩ := bindo h
  refine q_cond_f rfl (.tmp rfl) (bfalse hc1) (qQ rfl (qR rfl rfl (qS 11 rfl (oM · rfl) (qS 12 rfl (oM · rfl) (qS 13 rfl (oM · rfl) (q_call (dst := some 14) rfl (.func _) (.cons (.tmp rfl) (.cons (.tmp rfl) (.cons (.tmp rfl) Evs.nil))) (HInv.static pair_Rel_int_string_Has.at_ pair_Rel_int_string_Has.body (pair_Rel_int_string_Has.snd  hp2)) ?_))))))
  rintro _ _ ⟨rfl,rfl⟩
  try dsimp only [w0,w1,w2,w3]
  refine qS 10 rfl (oA · rfl) (rE ?_)
  try dsimp only [w0,w1,w2,w3]
  rcases ifc h with ⟨hc3,h⟩ | ⟨hc3,h⟩
  ·refine q_cond_t rfl (.tmp rfl) hc3 (qQ rfl (qR rfl rfl (qS 6 rfl (ok_assign · (.int _ _)) (rE ?_))))
   cases h
   exact q_ret rfl at_.at_ rfl (res1 rfl rfl) ⟨rfl,rfl⟩
  ·refine q_cond_f rfl (.tmp rfl) (bfalse hc3) (qQ rfl ?_)
   refine x_start (cls := [0,0,2,0,0,0,3,0,0]) (rk := [0,1,2,3,4,5,6,7,8]) rfl (by kernel_rfl) ?_
   refine xf 16 [0] rfl (oM · rfl) ?_
   refine xf 17 [1] rfl (oM · rfl) ?_
   obtain ⟨p4,hp4,h⟩ := bindo h
   refine x_goE (e_call (dst := some 18) (ts := [16,17]) rfl (by kernel_rfl) (.func _) (.cons (.tmp rfl) (.cons (.tmp rfl) Evs.nil)) (HInv.static pair_Rel_int_string_Count.at_ pair_Rel_int_string_Count.body (pair_Rel_int_string_Count.snd  hp4))) rfl trivial ?_
   refine xf 19 [0] rfl (oM · rfl) ?_
   try dsimp only [w0,w1,w2,w3]
   obtain ⟨p5,hp5,h⟩ := bindo h
   refine xf 20 [19] rfl (oN · rfl hp5) ?_
   refine xf 21 [20] rfl (oF · fi124_0 (by decide) rfl rfl) ?_
   obtain ⟨p6,hp6,h⟩ := bindo h
   obtain ⟨p7,hp7,h⟩ := bindo h
   obtain ⟨hg8,h⟩ := gd h
   refine x_late (r_op (dst := some 22) (ts := [21]) rfl (by intro _ _ h; cases h) (by kernel_rfl) (fun _ ho => ok_load_s ho sc3 (.tmp rfl) rfl (ldI_out hp6))) rfl ⟨.inr (l_op (dst := some 22) (ts := [21]) rfl (by intro _ _ h; cases h) (by kernel_rfl) (fun _ ho => ok_load_s ho sc3 (.tmp rfl) rfl (ldI_out (hp7.trans (congrArg some hg8))))),trivial⟩ ?_
   refine xf 23 [18,22] rfl (oB · rfl rfl rfl) ?_
   try dsimp only [w0,w1,w2,w3]
   refine xf 15 [23] rfl (oA · rfl) ?_
   refine x_rest rfl ?_
   refine rE ?_
   try dsimp only [w0,w1,w2,w3]
   rcases ifc h with ⟨hc9,h⟩ | ⟨hc9,h⟩
   ·refine q_cond_t rfl (.tmp rfl) (decide_eq_true hc9) (qQ rfl (qR rfl rfl (qS 6 rfl (ok_assign · (.int _ _)) (rE ?_))))
    cases h
    exact q_ret rfl at_.at_ rfl (res1 rfl rfl) ⟨rfl,rfl⟩
   ·obtain ⟨p10,hp10,h⟩ := bindo h
    obtain ⟨p11,hp11,h⟩ := bindo h
    refine q_cond_f rfl (.tmp rfl) (decide_eq_false hc9) (q_skipc rfl (hr_inBlock (qQ rfl (qR rfl rfl (qS 24 rfl (oM · rfl) (qS 25 rfl (oN · rfl hp10) (qS 26 rfl (oF · fi124_2 (by decide) rfl rfl) (qS 27 rfl (oL · sc121 rfl rfl (ldM_out hp11)) ?_))))))))
    try dsimp only [w0,w1,w2,w3]
    obtain ⟨p12,hp12,h⟩ := bindo h
    refine qS 28 rfl (oM · rfl) (qS 29 rfl (oM · rfl) (q_call (dst := some 30) rfl (.func _) (.cons (.tmp rfl) (.cons (.tmp rfl) (.cons (.tmp rfl) Evs.nil))) (HInv.static pair_put_int_string.at_ pair_put_int_string.body (pair_put_int_string.snd  hp12)) ?_))
    rintro _ _ ⟨rfl,rfl⟩
    refine rE ?_
    try dsimp only [w0,w1,w2,w3]
    obtain ⟨p13,hp13,h⟩ := bindo h
    obtain ⟨p14,hp14,h⟩ := bindo h
    refine qQ rfl (qR rfl rfl (qS 31 rfl (oM · rfl) (qS 32 rfl (oN · rfl hp13) (qS 33 rfl (oF · fi124_3 (by decide) rfl rfl) (qS 34 rfl (oL · sc122 rfl rfl (ldM_out hp14)) ?_)))))
    try dsimp only [w0,w1,w2,w3]
    obtain ⟨p15,hp15,h⟩ := bindo h
    refine qS 35 rfl (oM · rfl) (qS 36 rfl (oM · rfl) (q_call (dst := some 37) rfl (.func _) (.cons (.tmp rfl) (.cons (.tmp rfl) (.cons (.tmp rfl) Evs.nil))) (HInv.static pair_put_string_int.at_ pair_put_string_int.body (pair_put_string_int.snd  hp15)) ?_))
    rintro _ _ ⟨rfl,rfl⟩
    refine rE ?_
    try dsimp only [w0,w1,w2,w3]
    obtain ⟨p16,hp16,h⟩ := bindo h
    obtain ⟨p17,hp17,h⟩ := bindo h
    refine qQ rfl (qR rfl rfl (qS 38 rfl (oM · rfl) (qS 39 rfl (oN · rfl hp16) (qS 40 rfl (oF · fi124_1 (by decide) rfl rfl) (qS 41 rfl (oL · sc3 rfl rfl (ldI_out hp17)) ?_)))))
    try dsimp only [w0,w1,w2,w3]
    obtain ⟨p18,hp18,h⟩ := bindo h
    obtain ⟨p19,hp19,h⟩ := bindo h
    refine qS 42 rfl (oC · rfl rfl) (qS 43 rfl (oN · rfl hp18) (qS 44 rfl (oF · fi124_1 (by decide) rfl rfl) (qN rfl (ok_store_s (v := (.int .i64 (w64 (p17 + 1)))) · sz3 (.tmp rfl) rfl (.tmp rfl) rfl hp19) (rE ?_))))
    try dsimp only [w0,w1,w2,w3]
    refine qQ rfl (qR rfl rfl (qS 6 rfl (ok_assign · (.int _ _)) (rE ?_)))
    cases h
    exact q_ret rfl at_.at_ rfl (res1 rfl rfl) ⟨rfl,rfl⟩
end pair_Rel_int_string_Add
namespace slices_Reverse_book_entry_room_Room_book_entry_room_Room
theorem at_ : FnAt Tryz.prog 135 Tryz.f135 := ⟨Tryz.func135,by kernel_rfl⟩
def d0 := (Tryz.f135.body).getD .skip
def r1 := kR (kA d0)
def r6 := kR (kA (kA (kA (kA (kB d0)))))
def r12 := kR (kA (kA (kB (kA (kA (kB d0))))))
def r13 := kR (kB (kB (kA (kA (kB d0)))))
def c4 : Code := .seq (.seq (.region 1 r6 false) (.cond (.tmp 9) .skip (.exit 0))) (.seq (.block 1 (.region 3 r12 true)) (.region 2 r13 false))
def c0 : Code := .seq (.region 0 r1 false) (.block 0 (.loop c4))
theorem body : Tryz.f135.body = some c0 := by kernel_rfl
def L0 (k : Nat) : Nat → Sl → Int → Int → HS → Option ((Unit) × HS)
 | 0,_,_,_,_ => none
 | n + 1,y0,y2,y3,S =>
  (if y2 < y3 then
  ((S.idx y0 y3 2).bind fun p2 =>
  ((S.ldS (HA.fld p2 0)).bind fun p3 =>
  ((S.ldP (HA.fld p2 1)).bind fun p4 =>
  ((S.idx y0 y2 2).bind fun p5 =>
  ((S.ldS (HA.fld p5 0)).bind fun p6 =>
  ((S.ldP (HA.fld p5 1)).bind fun p7 =>
  ((S.idx y0 y2 2).bind fun p8 =>
  ((S.sets p8 [(.str p3),(.ptr p4)]).bind fun p9 =>
  ((p9.idx y0 y3 2).bind fun p10 =>
  ((p9.sets p10 [(.str p6),(.ptr p7)]).bind fun p11 =>
  (L0 k n) y0 (w64 (y2 + 1)) (w64 (y3 - 1)) p11)))))))))) else
  some ((),S))
theorem L0_snd  : ∀ {n : Nat} ⦃y0 : Sl⦄ ⦃y2 : Int⦄ ⦃y3 : Int⦄ ⦃S : HS⦄ ⦃p : (Unit) × HS⦄ ⦃Gb Ge Gf Gg Gh Gi Gj Gk Gl Gm Gn Go Gp Gq Gr Gs Gt Gu Gv Gw Gx Gy Gz Ka Kb : HV⦄,L0 k n y0 y2 y3 S = some p → HR base W0 β0 135 none [.inLoop c4,.inBlock 0] ⟨[(Sl.hv y0),Gb,(.int .i64 y2),(.int .i64 y3),Ge,Gf,Gg,Gh,Gi,Gj,Gk,Gl,Gm,Gn,Go,Gp,Gq,Gr,Gs,Gt,Gu,Gv,Gw,Gx,Gy,Gz,Ka,Kb],[]⟩ S (fun v S1 => v = (.tup []) ∧ S1 = p.2) := by
 intro n
 induction n with
 | zero => intro _ _ _ _ _ _ _ _ _ _ _ _ _ _ _ _ _ _ _ _ _ _ _ _ _ _ _ _ _ _ h; cases h
 | succ n ih =>
  intro y0 y2 y3 S p Gb Ge Gf Gg Gh Gi Gj Gk Gl Gm Gn Go Gp Gq Gr Gs Gt Gu Gv Gw Gx Gy Gz Ka Kb h
  simp only [L0] at h
  refine hr_inLoop (qQ rfl (qQ rfl (qR rfl rfl (qS 7 rfl (oM · rfl) (qS 8 rfl (oM · rfl) (qS 9 rfl (oB · rfl rfl rfl) (rE ?_)))))))
  try dsimp only [w0,w1,w2,w3]
  rcases ifc h with ⟨hc1,h⟩ | ⟨hc1,h⟩
  ·refine q_cond_t rfl (.tmp rfl) (decide_eq_true hc1) (q_skipc rfl (qQ rfl (q_block rfl ?_)))
   refine x_start (cls := [0,0,0,0,0,0,1,1,0,0,1,1,1,2,1,2]) (rk := [0,1,12,13,2,3,4,5,6,7,8,9,10,11,14,15]) rfl (by kernel_rfl) ?_
   refine yf 14 [0] rfl (oM · rfl) ?_
   refine yf 15 [2] rfl (oM · rfl) ?_
   refine yf 16 [0] rfl (oM · rfl) ?_
   refine yf 17 [3] rfl (oM · rfl) ?_
   try dsimp only [w0,w1,w2,w3]
   refine yf 18 [0] rfl (oM · rfl) ?_
   refine yf 19 [3] rfl (oM · rfl) ?_
   obtain ⟨p2,hp2,h⟩ := bindo h
   refine yr 20 [18,19] rfl (oX (s := y0) · tu118 sz133 rfl rfl hp2) ?_
   obtain ⟨p3,hp3,h⟩ := bindo h
   obtain ⟨p4,hp4,h⟩ := bindo h
   refine yr 21 [20] rfl (ok_load_a (vs := [(.str p3),(.ptr p4)]) · ia133 (.tmp rfl) rfl ⟨ldS_out hp3,ldP_out hp4,trivial⟩ (by simp)) ?_
   try dsimp only [w0,w1,w2,w3]
   refine yf 22 [0] rfl (oM · rfl) ?_
   refine yf 23 [2] rfl (oM · rfl) ?_
   obtain ⟨p5,hp5,h⟩ := bindo h
   refine yr 24 [22,23] rfl (oX (s := y0) · tu118 sz133 rfl rfl hp5) ?_
   obtain ⟨p6,hp6,h⟩ := bindo h
   obtain ⟨p7,hp7,h⟩ := bindo h
   refine yr 25 [24] rfl (ok_load_a (vs := [(.str p6),(.ptr p7)]) · ia133 (.tmp rfl) rfl ⟨ldS_out hp6,ldP_out hp7,trivial⟩ (by simp)) ?_
   try dsimp only [w0,w1,w2,w3]
   obtain ⟨p8,hp8,h⟩ := bindo h
   refine yr 26 [14,15] rfl (oX (s := y0) · tu118 sz133 rfl rfl hp8) ?_
   obtain ⟨p9,hp9,h⟩ := bindo h
   refine x_go (e_op (dst := none) (ts := [26,21]) rfl (by intro _ _ h; cases h) (by kernel_rfl) (fun _ ho => ok_store_s (v := (.agg [(.str p3),(.ptr p4)])) ho sz133 (.tmp rfl) rfl (.tmp rfl) rfl hp9)) rfl ?_
   obtain ⟨p10,hp10,h⟩ := bindo h
   refine yr 27 [16,17] rfl (oX (s := y0) · tu118 sz133 rfl rfl hp10) ?_
   obtain ⟨p11,hp11,h⟩ := bindo h
   refine x_go (e_op (dst := none) (ts := [27,25]) rfl (by intro _ _ h; cases h) (by kernel_rfl) (fun _ ho => ok_store_s (v := (.agg [(.str p6),(.ptr p7)])) ho sz133 (.tmp rfl) rfl (.tmp rfl) rfl hp11)) rfl ?_
   refine x_rest rfl ?_
   refine rE ?_
   try dsimp only [w0,w1,w2,w3]
   refine hr_inBlock (qR rfl rfl (qS 10 rfl (oM · rfl) (qS 11 rfl (oC · rfl rfl) (qS 12 rfl (oM · rfl) (qS 13 rfl (oC · rfl rfl) ?_)))))
   try dsimp only [w0,w1,w2,w3]
   refine qS 2 rfl (oA · rfl) (qS 3 rfl (oA · rfl) (rE ?_))
   try dsimp only [w0,w1,w2,w3]
   exact ih h
  ·cases h
   exact q_cond_f rfl (.tmp rfl) (decide_eq_false hc1) (q_exit rfl rfl (q_end at_.at_ rfl (res0 rfl) ⟨rfl,rfl⟩))
def f (k : Nat) (x0 : Sl) (S : HS) : Option ((Unit) × HS) :=
 L0 k k x0 0 (w64 ((Sl.len x0 : Int) - 1)) S
theorem snd {x0 : Sl} {S : HS}  {p : (Unit) × HS} (h : f k x0 S = some p) : HCall Tryz.prog base W0 β0 135 [(Sl.hv x0)] S (fun v S1 => v = (.tup []) ∧ S1 = p.2) := by
 unfold f at h
 refine HCall.of_run at_.at_ body ?_
 show HR base W0 β0 135 none [.code c0] ⟨[(Sl.hv x0),τ,τ,τ,τ,τ,τ,τ,τ,τ,τ,τ,τ,τ,τ,τ,τ,τ,τ,τ,τ,τ,τ,τ,τ,τ,τ,τ],[]⟩ S _
 refine qQ rfl (qR rfl rfl (qS 4 rfl (oM · rfl) (qS 5 rfl (ok_len_sl (q := Sl.a x0) (n := Sl.len x0) (z := Sl.cap x0) · rfl tu118 (.tmp rfl)) (qS 6 rfl (oC · rfl rfl) (qS 2 rfl (ok_assign · (.int _ _)) ?_)))))
 try dsimp only [w0,w1,w2,w3]
 refine qS 3 rfl (oA · rfl) (rE ?_)
 try dsimp only [w0,w1,w2,w3]
 refine q_block rfl (q_loop rfl ?_)
 try dsimp only [w0,w1,w2,w3]
 exact L0_snd  h
end slices_Reverse_book_entry_room_Room_book_entry_room_Room
namespace slices_rotateLeft_book_entry_room_Room
theorem at_ : FnAt Tryz.prog 127 Tryz.f127 := ⟨Tryz.func127,by kernel_rfl⟩
def d0 := (Tryz.f127.body).getD .skip
def r1 := kR (kA d0)
def r3 := kR (kA (kB d0))
def r4 := kR (kB (kB d0))
def c0 : Code := .seq (.region 0 r1 false) (.seq (.region 1 r3 false) (.region 2 r4 false))
theorem body : Tryz.f127.body = some c0 := by kernel_rfl
def f (k : Nat) (x0 : Sl) (x1 : Int) (S : HS) : Option ((Unit) × HS) :=
 ((S.cut x0 0 x1 2).bind fun p1 =>
 ((slices_Reverse_book_entry_room_Room_book_entry_room_Room.f k p1 S).bind fun p2 =>
 ((p2.2.cut x0 x1 (Sl.len x0 : Int) 2).bind fun p3 =>
 ((slices_Reverse_book_entry_room_Room_book_entry_room_Room.f k p3 p2.2).bind fun p4 =>
 ((slices_Reverse_book_entry_room_Room_book_entry_room_Room.f k x0 p4.2).bind fun p5 =>
 some ((),p5.2))))))
theorem snd {x0 : Sl} {x1 : Int} {S : HS}  {p : (Unit) × HS} (h : f k x0 x1 S = some p) : HCall Tryz.prog base W0 β0 127 [(Sl.hv x0),(.int .i64 x1)] S (fun v S1 => v = (.tup []) ∧ S1 = p.2) := by
 unfold f at h
 refine HCall.of_run at_.at_ body ?_
 show HR base W0 β0 127 none [.code c0] ⟨[(Sl.hv x0),(.int .i64 x1),τ,τ,τ,τ,τ,τ,τ,τ,τ,τ,τ,τ],[]⟩ S _
 obtain ⟨p1,hp1,h⟩ := bindo h
 obtain ⟨p2,hp2,h⟩ := bindo h
 refine qQ rfl (qR rfl rfl (qS 4 rfl (oM · rfl) (qS 5 rfl (oM · rfl) (qS 6 rfl (ok_slice (kl := .i64) (kh := .i64) (s := x0) (l := 0) (h := x1) · tu118 si133 (.tmp rfl) (.inl ⟨rfl,rfl⟩) (.inr ⟨_,rfl,(.tmp rfl)⟩) hp1) (q_call (dst := some 7) rfl (.func _) (.cons (.tmp rfl) Evs.nil) (HInv.static slices_Reverse_book_entry_room_Room_book_entry_room_Room.at_ slices_Reverse_book_entry_room_Room_book_entry_room_Room.body (slices_Reverse_book_entry_room_Room_book_entry_room_Room.snd  hp2)) ?_)))))
 rintro _ _ ⟨rfl,rfl⟩
 refine rE ?_
 try dsimp only [w0,w1,w2,w3]
 obtain ⟨p3,hp3,h⟩ := bindo h
 obtain ⟨p4,hp4,h⟩ := bindo h
 refine qQ rfl (qR rfl rfl (qS 8 rfl (oM · rfl) (qS 9 rfl (oM · rfl) (qS 10 rfl (ok_slice (kl := .i64) (kh := .i64) (s := x0) (l := x1) (h := (Sl.len x0 : Int)) · tu118 si133 (.tmp rfl) (.inr ⟨_,rfl,(.tmp rfl)⟩) (.inl ⟨rfl,rfl⟩) hp3) (q_call (dst := some 11) rfl (.func _) (.cons (.tmp rfl) Evs.nil) (HInv.static slices_Reverse_book_entry_room_Room_book_entry_room_Room.at_ slices_Reverse_book_entry_room_Room_book_entry_room_Room.body (slices_Reverse_book_entry_room_Room_book_entry_room_Room.snd  hp4)) ?_)))))
 rintro _ _ ⟨rfl,rfl⟩
 refine rE ?_
 try dsimp only [w0,w1,w2,w3]
 obtain ⟨p5,hp5,h⟩ := bindo h
 refine qR rfl rfl (qS 12 rfl (oM · rfl) (q_call (dst := some 13) rfl (.func _) (.cons (.tmp rfl) Evs.nil) (HInv.static slices_Reverse_book_entry_room_Room_book_entry_room_Room.at_ slices_Reverse_book_entry_room_Room_book_entry_room_Room.body (slices_Reverse_book_entry_room_Room_book_entry_room_Room.snd  hp5)) ?_))
 rintro _ _ ⟨rfl,rfl⟩
 refine rE ?_
 try dsimp only [w0,w1,w2,w3]
 cases h
 exact q_end at_.at_ rfl (res0 rfl) ⟨rfl,rfl⟩
end slices_rotateLeft_book_entry_room_Room
namespace slices_rotateRight_book_entry_room_Room
theorem at_ : FnAt Tryz.prog 109 Tryz.f109 := ⟨Tryz.func109,by kernel_rfl⟩
def d0 := (Tryz.f109.body).getD .skip
def r0 := kR d0
def c0 : Code := .region 0 r0 false
theorem body : Tryz.f109.body = some c0 := by kernel_rfl
def f (k : Nat) (x0 : Sl) (x1 : Int) (S : HS) : Option ((Unit) × HS) :=
 ((slices_rotateLeft_book_entry_room_Room.f k x0 (w64 ((Sl.len x0 : Int) - x1)) S).bind fun p1 =>
 some ((),p1.2))
theorem snd {x0 : Sl} {x1 : Int} {S : HS}  {p : (Unit) × HS} (h : f k x0 x1 S = some p) : HCall Tryz.prog base W0 β0 109 [(Sl.hv x0),(.int .i64 x1)] S (fun v S1 => v = (.tup []) ∧ S1 = p.2) := by
 unfold f at h
 refine HCall.of_run at_.at_ body ?_
 show HR base W0 β0 109 none [.code c0] ⟨[(Sl.hv x0),(.int .i64 x1),τ,τ,τ,τ,τ,τ,τ,τ],[]⟩ S _
 refine qR rfl rfl (qS 4 rfl (oM · rfl) (qS 5 rfl (oM · rfl) (qS 6 rfl (ok_len_sl (q := Sl.a x0) (n := Sl.len x0) (z := Sl.cap x0) · rfl tu118 (.tmp rfl)) (qS 7 rfl (oM · rfl) ?_))))
 try dsimp only [w0,w1,w2,w3]
 obtain ⟨p1,hp1,h⟩ := bindo h
 refine qS 8 rfl (oB · rfl rfl rfl) (q_call (dst := some 9) rfl (.func _) (.cons (.tmp rfl) (.cons (.tmp rfl) Evs.nil)) (HInv.static slices_rotateLeft_book_entry_room_Room.at_ slices_rotateLeft_book_entry_room_Room.body (slices_rotateLeft_book_entry_room_Room.snd  hp1)) ?_)
 rintro _ _ ⟨rfl,rfl⟩
 refine rE ?_
 try dsimp only [w0,w1,w2,w3]
 cases h
 exact q_end at_.at_ rfl (res0 rfl) ⟨rfl,rfl⟩
end slices_rotateRight_book_entry_room_Room
namespace slices_Insert_book_entry_room_Room_book_entry_room_Room
theorem at_ : FnAt Tryz.prog 77 Tryz.f77 := ⟨Tryz.func77,by kernel_rfl⟩
def d0 := (Tryz.f77.body).getD .skip
def r1 := kR (kA d0)
def r3 := kR (kA (kB d0))
def r5 := kR (kA (kB (kB d0)))
def d6 := kB (kB (kB d0))
def r8 := kR (kA (kA d6))
def r11 := kR (kA (kA (kB (kA d6))))
def r15 := kR (kA (kB d6))
def r18 := kR (kA (kA (kB (kB d6))))
def r21 := kR (kA (kA (kB (kA (kB (kB d6))))))
def d24 := kB (kB (kB d6))
def r26 := kR (kA (kA d24))
def d28 := kA (kB (kA d24))
def r29 := kR (kA d28)
def r31 := kR (kA (kB d28))
def r33 := kR (kA (kB (kB d28)))
def r35 := kR (kA (kB (kB (kB d28))))
def r39 := kR (kA (kB d24))
def d41 := kA (kB (kB d24))
def r42 := kR (kA d41)
def r45 := kR (kA (kA (kB d41)))
def r47 := kR (kA (kB (kA (kB d41))))
def r49 := kR (kA (kB (kB (kA (kB d41)))))
def r53 := kR (kA (kB (kB (kB d24))))
def r55 := kR (kA (kB (kB (kB (kB d24)))))
def r57 := kR (kA (kB (kB (kB (kB (kB d24))))))
def c0 : Code := .seq (.region 0 r1 false) (.seq (.region 1 r3 false) (.seq (.region 2 r5 false) (.seq (.seq (.region 3 r8 false) (.cond (.tmp 16) (.seq (.region 4 r11 false) .ret) .skip)) (.seq (.region 5 r15 false) (.seq (.seq (.region 6 r18 false) (.cond (.tmp 22) (.seq (.region 7 r21 false) .ret) .skip)) (.seq (.seq (.region 8 r26 false) (.cond (.tmp 31) (.seq (.region 9 r29 false) (.seq (.region 10 r31 false) (.seq (.region 11 r33 true) (.seq (.region 12 r35 false) .ret)))) .skip)) (.seq (.region 13 r39 false) (.seq (.seq (.region 14 r42 false) (.cond (.tmp 68) (.seq (.region 15 r45 true) (.seq (.region 16 r47 false) (.seq (.region 17 r49 false) .ret))) .skip)) (.seq (.region 18 r53 false) (.seq (.region 19 r55 false) (.seq (.region 20 r57 false) .ret)))))))))))
theorem body : Tryz.f77.body = some c0 := by kernel_rfl
def f (k : Nat) (x0 : Sl) (x1 : Int) (x2 : Sl) (S : HS) : Option ((Sl) × HS) :=
 ((S.cut x0 x1 (Sl.len x0 : Int) 2).bind fun p1 =>
 (if (Sl.len x2 : Int) = 0 then
 some (x0,S) else
 (if x1 = (Sl.len x0 : Int) then
 ((S.rows x2 2).bind fun p4 =>
 ((S.app x0 p4 2).bind fun p5 =>
 some ((p5.1),(p5.2)))) else
 ((Sl.capOf x0).bind fun p6 =>
 (if (w64 ((Sl.len x0 : Int) + (Sl.len x2 : Int))) > p6 then
 ((S.cut x0 0 x1 2).bind fun p8 =>
 ((S.appZ p8 (w64 ((w64 ((Sl.len x0 : Int) + (Sl.len x2 : Int))) - x1)) [(.str []),(.ptr none)] 2).bind fun p9 =>
 ((p9.2.cut (p9.1) x1 (Sl.len (p9.1) : Int) 2).bind fun p10 =>
 ((p9.2.rows x2 2).bind fun p11 =>
 ((p9.2.over p10 (List.take (Sl.len p10) p11) 2).bind fun p12 =>
 ((p12.cut (p9.1) (w64 (x1 + (Sl.len x2 : Int))) (Sl.len (p9.1) : Int) 2).bind fun p13 =>
 ((p12.cut x0 x1 (Sl.len x0 : Int) 2).bind fun p14 =>
 ((p12.rows p14 2).bind fun p15 =>
 ((p12.over p13 (List.take (Sl.len p13) p15) 2).bind fun p16 =>
 some ((p9.1),p16)))))))))) else
 ((S.cut x0 0 (w64 ((Sl.len x0 : Int) + (Sl.len x2 : Int))) 2).bind fun p17 =>
 ((S.cut p17 (w64 (x1 + (Sl.len x2 : Int))) (Sl.len p17 : Int) 2).bind fun p18 =>
 ((S.ovl x2 p18).bind fun p19 =>
 (if (!p19) = true then
 ((S.cut p17 (w64 (x1 + (Sl.len x2 : Int))) (Sl.len p17 : Int) 2).bind fun p21 =>
 ((S.cut p17 x1 (Sl.len p17 : Int) 2).bind fun p22 =>
 ((S.rows p22 2).bind fun p23 =>
 ((S.over p21 (List.take (Sl.len p21) p23) 2).bind fun p24 =>
 ((p24.cut p17 x1 (Sl.len p17 : Int) 2).bind fun p25 =>
 ((p24.rows x2 2).bind fun p26 =>
 ((p24.over p25 (List.take (Sl.len p25) p26) 2).bind fun p27 =>
 some (p17,p27)))))))) else
 ((S.cut p17 (Sl.len x0 : Int) (Sl.len p17 : Int) 2).bind fun p28 =>
 ((S.rows x2 2).bind fun p29 =>
 ((S.over p28 (List.take (Sl.len p28) p29) 2).bind fun p30 =>
 ((p30.cut p17 x1 (Sl.len p17 : Int) 2).bind fun p31 =>
 ((slices_rotateRight_book_entry_room_Room.f k p31 (Sl.len x2 : Int) p30).bind fun p32 =>
 some (p17,p32.2)))))))))))))))
theorem snd {x0 : Sl} {x1 : Int} {x2 : Sl} {S : HS}  {p : (Sl) × HS} (h : f k x0 x1 x2 S = some p) : HCall Tryz.prog base W0 β0 77 [(Sl.hv x0),(.int .i64 x1),(Sl.hv x2)] S (fun v S1 => v = (Sl.hv p.1) ∧ S1 = p.2) := by
 unfold f at h
 refine HCall.of_run at_.at_ body ?_
 show HR base W0 β0 77 none [.code c0] ⟨[(Sl.hv x0),(.int .i64 x1),(Sl.hv x2),τ,τ,τ,τ,τ,τ,τ,τ,τ,τ,τ,τ,τ,τ,τ,τ,τ,τ,τ,τ,τ,τ,τ,τ,τ,τ,τ,τ,τ,τ,τ,τ,τ,τ,τ,τ,τ,τ,τ,τ,τ,τ,τ,τ,τ,τ,τ,τ,τ,τ,τ,τ,τ,τ,τ,τ,τ,τ,τ,τ,τ,τ,τ,τ,τ,τ,τ,τ,τ,τ,τ,τ,τ,τ,τ,τ,τ,τ,τ,τ,τ,τ,τ,τ,τ,τ,τ,τ,τ,τ,τ,τ],[]⟩ S _
 refine qQ rfl (qR rfl rfl (qS 6 rfl (ok_assign · (.const fun _ => .slNil none)) (rE ?_)))
 try dsimp only [w0,w1,w2,w3]
 obtain ⟨p1,hp1,h⟩ := bindo h
 refine qQ rfl (qR rfl rfl (qS 10 rfl (oM · rfl) (qS 11 rfl (oM · rfl) (qS 12 rfl (ok_slice (kl := .i64) (kh := .i64) (s := x0) (l := x1) (h := (Sl.len x0 : Int)) · tu118 si133 (.tmp rfl) (.inr ⟨_,rfl,(.tmp rfl)⟩) (.inl ⟨rfl,rfl⟩) hp1) (rE ?_)))))
 try dsimp only [w0,w1,w2,w3]
 refine qQ rfl (qR rfl rfl (qS 13 rfl (oM · rfl) (qS 14 rfl (ok_len_sl (q := Sl.a x2) (n := Sl.len x2) (z := Sl.cap x2) · rfl tu118 (.tmp rfl)) (qS 7 rfl (oA · rfl) (rE ?_)))))
 try dsimp only [w0,w1,w2,w3]
 refine qQ rfl (qQ rfl (qR rfl rfl (qS 15 rfl (oM · rfl) (qS 16 rfl (oC · rfl rfl) (rE ?_)))))
 try dsimp only [w0,w1,w2,w3]
 rcases ifc h with ⟨hc2,h⟩ | ⟨hc2,h⟩
 ·refine q_cond_t rfl (.tmp rfl) (decide_eq_true hc2) (qQ rfl (qR rfl rfl (qS 17 rfl (oM · rfl) (qS 6 rfl (oA · rfl) (rE ?_)))))
  cases h
  exact q_ret rfl at_.at_ rfl (res1 rfl rfl) ⟨rfl,rfl⟩
 ·refine q_cond_f rfl (.tmp rfl) (decide_eq_false hc2) (q_skipc rfl (qQ rfl (qR rfl rfl (qS 18 rfl (oM · rfl) (qS 19 rfl (ok_len_sl (q := Sl.a x0) (n := Sl.len x0) (z := Sl.cap x0) · rfl tu118 (.tmp rfl)) (qS 8 rfl (oA · rfl) (rE ?_)))))))
  try dsimp only [w0,w1,w2,w3]
  refine qQ rfl (qQ rfl (qR rfl rfl (qS 20 rfl (oM · rfl) (qS 21 rfl (oM · rfl) (qS 22 rfl (oB · rfl rfl rfl) (rE ?_))))))
  try dsimp only [w0,w1,w2,w3]
  rcases ifc h with ⟨hc3,h⟩ | ⟨hc3,h⟩
  ·obtain ⟨p4,hp4,h⟩ := bindo h
   obtain ⟨p5,hp5,h⟩ := bindo h
   refine q_cond_t rfl (.tmp rfl) (decide_eq_true hc3) (qQ rfl (qR rfl rfl (qS 23 rfl (oM · rfl) (qS 24 rfl (oM · rfl) (qS 25 rfl (ok_append (s := x0) (s1 := x2) el118 · rfl rfl ⟨_,tu118⟩ (.tmp rfl) (.tmp rfl) hp4 hp5) (qS 6 rfl (oA · rfl) (rE ?_)))))))
   cases h
   exact q_ret rfl at_.at_ rfl (res1 rfl rfl) ⟨rfl,rfl⟩
  ·refine q_cond_f rfl (.tmp rfl) (decide_eq_false hc3) (q_skipc rfl (qQ rfl (qQ rfl (qR rfl rfl (qS 26 rfl (oM · rfl) (qS 27 rfl (oM · rfl) (qS 28 rfl (oB · rfl rfl rfl) (qS 29 rfl (oM · rfl) ?_))))))))
   try dsimp only [w0,w1,w2,w3]
   obtain ⟨p6,hp6,h⟩ := bindo h
   refine qS 30 rfl (ok_cap (s := x0) · rfl tu118 (.tmp rfl) hp6) (qS 31 rfl (oB · rfl rfl rfl) (rE ?_))
   try dsimp only [w0,w1,w2,w3]
   rcases ifc h with ⟨hc7,h⟩ | ⟨hc7,h⟩
   ·obtain ⟨p8,hp8,h⟩ := bindo h
    refine q_cond_t rfl (.tmp rfl) (decide_eq_true hc7) (qQ rfl (qR rfl rfl (qS 32 rfl (oM · rfl) (qS 33 rfl (oM · rfl) (qS 34 rfl (ok_slice (kl := .i64) (kh := .i64) (s := x0) (l := 0) (h := x1) · tu118 si133 (.tmp rfl) (.inl ⟨rfl,rfl⟩) (.inr ⟨_,rfl,(.tmp rfl)⟩) hp8) (qS 35 rfl (oM · rfl) ?_))))))
    try dsimp only [w0,w1,w2,w3]
    refine qS 36 rfl (oM · rfl) (qS 37 rfl (oB · rfl rfl rfl) (qS 38 rfl (oM · rfl) (qS 39 rfl (oB · rfl rfl rfl) ?_)))
    try dsimp only [w0,w1,w2,w3]
    obtain ⟨p9,hp9,h⟩ := bindo h
    refine qS 40 rfl (ok_append_zeros (s := p8) el118 · rfl rfl tu3 (.tmp rfl) (.tmp rfl) hp9) (qS 9 rfl (oA · rfl) (rE ?_))
    try dsimp only [w0,w1,w2,w3]
    obtain ⟨p10,hp10,h⟩ := bindo h
    refine qQ rfl (qR rfl rfl (qS 41 rfl (oM · rfl) (qS 42 rfl (oM · rfl) (qS 43 rfl (ok_slice (kl := .i64) (kh := .i64) (s := (p9.1)) (l := x1) (h := (Sl.len (p9.1) : Int)) · tu118 si133 (.tmp rfl) (.inr ⟨_,rfl,(.tmp rfl)⟩) (.inl ⟨rfl,rfl⟩) hp10) (qS 44 rfl (oM · rfl) ?_)))))
    try dsimp only [w0,w1,w2,w3]
    obtain ⟨p11,hp11,h⟩ := bindo h
    obtain ⟨p12,hp12,h⟩ := bindo h
    refine qS 45 rfl (ok_copy (s := p10) (s1 := x2) el118 · rfl (.tmp rfl) (.tmp rfl) hp11 hp12) (rE ?_)
    try dsimp only [w0,w1,w2,w3]
    refine qQ rfl ?_
    refine x_start (cls := [0,0,0,0,1,0,0,1,2]) (rk := [0,1,2,3,4,5,6,7,8]) rfl (by kernel_rfl) ?_
    refine yf 46 [9] rfl (oM · rfl) ?_
    refine yf 47 [1] rfl (oM · rfl) ?_
    refine yf 48 [7] rfl (oM · rfl) ?_
    refine yf 49 [47,48] rfl (oB · rfl rfl rfl) ?_
    try dsimp only [w0,w1,w2,w3]
    obtain ⟨p13,hp13,h⟩ := bindo h
    refine yr 50 [46,49] rfl (ok_slice (kl := .i64) (kh := .i64) (s := (p9.1)) (l := (w64 (x1 + (Sl.len x2 : Int)))) (h := (Sl.len (p9.1) : Int)) · tu118 si133 (.tmp rfl) (.inr ⟨_,rfl,(.tmp rfl)⟩) (.inl ⟨rfl,rfl⟩) hp13) ?_
    refine yf 51 [0] rfl (oM · rfl) ?_
    refine yf 52 [1] rfl (oM · rfl) ?_
    obtain ⟨p14,hp14,h⟩ := bindo h
    refine yr 53 [51,52] rfl (ok_slice (kl := .i64) (kh := .i64) (s := x0) (l := x1) (h := (Sl.len x0 : Int)) · tu118 si133 (.tmp rfl) (.inr ⟨_,rfl,(.tmp rfl)⟩) (.inl ⟨rfl,rfl⟩) hp14) ?_
    try dsimp only [w0,w1,w2,w3]
    obtain ⟨p15,hp15,h⟩ := bindo h
    obtain ⟨p16,hp16,h⟩ := bindo h
    refine ye 54 [50,53] rfl (ok_copy (s := p13) (s1 := p14) el118 · rfl (.tmp rfl) (.tmp rfl) hp15 hp16) ?_
    refine x_rest rfl ?_
    refine rE ?_
    try dsimp only [w0,w1,w2,w3]
    refine qQ rfl (qR rfl rfl (qS 55 rfl (oM · rfl) (qS 6 rfl (oA · rfl) (rE ?_))))
    cases h
    exact q_ret rfl at_.at_ rfl (res1 rfl rfl) ⟨rfl,rfl⟩
   ·refine q_cond_f rfl (.tmp rfl) (decide_eq_false hc7) (q_skipc rfl (qQ rfl (qR rfl rfl (qS 56 rfl (oM · rfl) (qS 57 rfl (oM · rfl) (qS 58 rfl (oM · rfl) (qS 59 rfl (oB · rfl rfl rfl) ?_)))))))
    try dsimp only [w0,w1,w2,w3]
    obtain ⟨p17,hp17,h⟩ := bindo h
    refine qS 60 rfl (ok_slice (kl := .i64) (kh := .i64) (s := x0) (l := 0) (h := (w64 ((Sl.len x0 : Int) + (Sl.len x2 : Int)))) · tu118 si133 (.tmp rfl) (.inl ⟨rfl,rfl⟩) (.inr ⟨_,rfl,(.tmp rfl)⟩) hp17) (qS 0 rfl (oA · rfl) (rE ?_))
    try dsimp only [w0,w1,w2,w3]
    refine qQ rfl (qQ rfl (qR rfl rfl (qS 61 rfl (oM · rfl) (qS 62 rfl (oM · rfl) (qS 63 rfl (oM · rfl) (qS 64 rfl (oM · rfl) ?_))))))
    try dsimp only [w0,w1,w2,w3]
    obtain ⟨p18,hp18,h⟩ := bindo h
    obtain ⟨p19,hp19,h⟩ := bindo h
    refine qS 65 rfl (oB · rfl rfl rfl) (qS 66 rfl (ok_slice (kl := .i64) (kh := .i64) (s := p17) (l := (w64 (x1 + (Sl.len x2 : Int)))) (h := (Sl.len p17 : Int)) · tu118 si133 (.tmp rfl) (.inr ⟨_,rfl,(.tmp rfl)⟩) (.inl ⟨rfl,rfl⟩) hp18) (qS 67 rfl (ok_overlaps (s1 := x2) (s2 := p18) · ext108 tu118 si133 (.tmp rfl) (.tmp rfl) hp19) (qS 68 rfl (ok_not · (.tmp rfl)) (rE ?_))))
    try dsimp only [w0,w1,w2,w3]
    rcases ifc h with ⟨hc20,h⟩ | ⟨hc20,h⟩
    ·refine q_cond_t rfl (.tmp rfl) hc20 (qQ rfl ?_)
     refine x_start (cls := [0,0,0,0,1,0,0,1,2]) (rk := [0,1,2,3,4,5,6,7,8]) rfl (by kernel_rfl) ?_
     refine yf 69 [0] rfl (oM · rfl) ?_
     refine yf 70 [1] rfl (oM · rfl) ?_
     refine yf 71 [7] rfl (oM · rfl) ?_
     refine yf 72 [70,71] rfl (oB · rfl rfl rfl) ?_
     try dsimp only [w0,w1,w2,w3]
     obtain ⟨p21,hp21,h⟩ := bindo h
     refine yr 73 [69,72] rfl (ok_slice (kl := .i64) (kh := .i64) (s := p17) (l := (w64 (x1 + (Sl.len x2 : Int)))) (h := (Sl.len p17 : Int)) · tu118 si133 (.tmp rfl) (.inr ⟨_,rfl,(.tmp rfl)⟩) (.inl ⟨rfl,rfl⟩) hp21) ?_
     refine yf 74 [0] rfl (oM · rfl) ?_
     refine yf 75 [1] rfl (oM · rfl) ?_
     obtain ⟨p22,hp22,h⟩ := bindo h
     refine yr 76 [74,75] rfl (ok_slice (kl := .i64) (kh := .i64) (s := p17) (l := x1) (h := (Sl.len p17 : Int)) · tu118 si133 (.tmp rfl) (.inr ⟨_,rfl,(.tmp rfl)⟩) (.inl ⟨rfl,rfl⟩) hp22) ?_
     try dsimp only [w0,w1,w2,w3]
     obtain ⟨p23,hp23,h⟩ := bindo h
     obtain ⟨p24,hp24,h⟩ := bindo h
     refine ye 77 [73,76] rfl (ok_copy (s := p21) (s1 := p22) el118 · rfl (.tmp rfl) (.tmp rfl) hp23 hp24) ?_
     refine x_rest rfl ?_
     refine rE ?_
     try dsimp only [w0,w1,w2,w3]
     obtain ⟨p25,hp25,h⟩ := bindo h
     refine qQ rfl (qR rfl rfl (qS 78 rfl (oM · rfl) (qS 79 rfl (oM · rfl) (qS 80 rfl (ok_slice (kl := .i64) (kh := .i64) (s := p17) (l := x1) (h := (Sl.len p17 : Int)) · tu118 si133 (.tmp rfl) (.inr ⟨_,rfl,(.tmp rfl)⟩) (.inl ⟨rfl,rfl⟩) hp25) (qS 81 rfl (oM · rfl) ?_)))))
     try dsimp only [w0,w1,w2,w3]
     obtain ⟨p26,hp26,h⟩ := bindo h
     obtain ⟨p27,hp27,h⟩ := bindo h
     refine qS 82 rfl (ok_copy (s := p25) (s1 := x2) el118 · rfl (.tmp rfl) (.tmp rfl) hp26 hp27) (rE ?_)
     try dsimp only [w0,w1,w2,w3]
     refine qQ rfl (qR rfl rfl (qS 83 rfl (oM · rfl) (qS 6 rfl (oA · rfl) (rE ?_))))
     cases h
     exact q_ret rfl at_.at_ rfl (res1 rfl rfl) ⟨rfl,rfl⟩
    ·obtain ⟨p28,hp28,h⟩ := bindo h
     refine q_cond_f rfl (.tmp rfl) (bfalse hc20) (q_skipc rfl (qQ rfl (qR rfl rfl (qS 84 rfl (oM · rfl) (qS 85 rfl (oM · rfl) (qS 86 rfl (ok_slice (kl := .i64) (kh := .i64) (s := p17) (l := (Sl.len x0 : Int)) (h := (Sl.len p17 : Int)) · tu118 si133 (.tmp rfl) (.inr ⟨_,rfl,(.tmp rfl)⟩) (.inl ⟨rfl,rfl⟩) hp28) (qS 87 rfl (oM · rfl) ?_)))))))
     try dsimp only [w0,w1,w2,w3]
     obtain ⟨p29,hp29,h⟩ := bindo h
     obtain ⟨p30,hp30,h⟩ := bindo h
     refine qS 88 rfl (ok_copy (s := p28) (s1 := x2) el118 · rfl (.tmp rfl) (.tmp rfl) hp29 hp30) (rE ?_)
     try dsimp only [w0,w1,w2,w3]
     obtain ⟨p31,hp31,h⟩ := bindo h
     refine qQ rfl (qR rfl rfl (qS 89 rfl (oM · rfl) (qS 90 rfl (oM · rfl) (qS 91 rfl (ok_slice (kl := .i64) (kh := .i64) (s := p17) (l := x1) (h := (Sl.len p17 : Int)) · tu118 si133 (.tmp rfl) (.inr ⟨_,rfl,(.tmp rfl)⟩) (.inl ⟨rfl,rfl⟩) hp31) (qS 92 rfl (oM · rfl) ?_)))))
     try dsimp only [w0,w1,w2,w3]
     obtain ⟨p32,hp32,h⟩ := bindo h
     refine q_call (dst := some 93) rfl (.func _) (.cons (.tmp rfl) (.cons (.tmp rfl) Evs.nil)) (HInv.static slices_rotateRight_book_entry_room_Room.at_ slices_rotateRight_book_entry_room_Room.body (slices_rotateRight_book_entry_room_Room.snd  hp32)) ?_
     rintro _ _ ⟨rfl,rfl⟩
     refine rE ?_
     try dsimp only [w0,w1,w2,w3]
     refine qQ rfl (qR rfl rfl (qS 94 rfl (oM · rfl) (qS 6 rfl (oA · rfl) (rE ?_))))
     cases h
     exact q_ret rfl at_.at_ rfl (res1 rfl rfl) ⟨rfl,rfl⟩
end slices_Insert_book_entry_room_Room_book_entry_room_Room
namespace slices_Insert_book_entry_room_Room_book_entry_room_Room_w
theorem at_ : FnAt Tryz.prog 77 Tryz.f77 := slices_Insert_book_entry_room_Room_book_entry_room_Room.at_
theorem body : Tryz.f77.body = some slices_Insert_book_entry_room_Room_book_entry_room_Room.c0 := slices_Insert_book_entry_room_Room_book_entry_room_Room.body
def f (x0 : Sl) (x1 : Int) (x2 : Sl) (S : HS) : Option ((Sl) × HS) := HS.ins S x0 x1 x2 2
theorem snd {base : Nat} {W0 : World} {β0 : Bt} {x0 : Sl} {x1 : Int} {x2 : Sl} {S : HS} {p : (Sl) × HS} (h : f x0 x1 x2 S = some p) : HCall Tryz.prog base W0 β0 77 [(Sl.hv x0),(.int .i64 x1),(Sl.hv x2)] S (fun v S1 => v = (Sl.hv p.1) ∧ S1 = p.2) :=
 ins_snd (rot := fun a b T => slices_rotateRight_book_entry_room_Room.f 0 a b T) (zr := [(.str []),(.ptr none)]) (fun _ _ _ h => slices_Insert_book_entry_room_Room_book_entry_room_Room.snd (k := 0) h) h
end slices_Insert_book_entry_room_Room_book_entry_room_Room_w
namespace book_Book_room_Room_Put
theorem at_ : FnAt Tryz.prog 48 Tryz.f48 := ⟨Tryz.func48,by kernel_rfl⟩
def d0 := (Tryz.f48.body).getD .skip
def r1 := kR (kA d0)
def r4 := kR (kA (kA (kB d0)))
def r7 := kR (kA (kA (kB (kA (kB d0)))))
def r11 := kR (kA (kB (kB d0)))
def d12 := kB (kB (kB d0))
def r15 := kR (kA (kA (kA d12)))
def d16 := kB (kA (kA d12))
def r17 := kR (kA d16)
def r19 := kR (kA (kB d16))
def r22 := kR (kA (kA (kB (kB d16))))
def r24 := kR (kB (kB (kB d16)))
def r26 := kR (kA (kB d12))
def c25 : Code := .seq (.region 9 r26 false) .ret
def c0 : Code := .seq (.region 0 r1 false) (.seq (.seq (.region 1 r4 false) (.cond (.tmp 10) (.seq (.region 2 r7 false) .ret) .skip)) (.seq (.region 3 r11 false) (.seq (.block 0 (.seq (.region 5 r15 false) (.cond (.tmp 30) (.region 6 r17 false) (.seq (.region 7 r19 true) (.cond (.tmp 41) (.seq (.region 8 r22 false) .ret) (.region 4 r24 false)))))) c25)))
theorem body : Tryz.f48.body = some c0 := by kernel_rfl
def J0 (D : Dp) (H : Hd) (k : Nat) (S : HS) : Option ((Int) × HS) :=
 some (0,S)
theorem J0_snd (hD : DS base W0 D) (hH : HT base W0 β0 H)  {S : HS} {p : (Int) × HS} (h : J0 D H k S = some p) : HR base W0 β0 48 none [.code c25] ⟨[Ga,Gb,Gc,Gd,Ge,Gf,Gg,Gh,Gi,Gj,Gk,Gl,Gm,Gn,Go,Gp,Gq,Gr,Gs,Gt,Gu,Gv,Gw,Gx,Gy,Gz,Ka,Kb,Kc,Kd,Ke,Kf,Kg,Kh,Ki,Kj,Kk,Kl,Km,Kn,Ko,Kp,Kq,Kr,Ks,Kt,Ku,Kv,Kw,Kx,Ky,Kz],[]⟩ S (fun v S1 => v = (.int .i64 p.1) ∧ S1 = p.2) := by
 unfold J0 at h
 refine qQ rfl (qR rfl rfl (qS 6 rfl (ok_assign · (.int _ _)) (rE ?_)))
 cases h
 exact q_ret rfl at_.at_ rfl (res1 rfl rfl) ⟨rfl,rfl⟩
def f (D : Dp) (H : Hd) (k : Nat) (x0 : HP) (x1 : (List UInt8)) (x2 : HP) (S : HS) : Option ((Int) × HS) :=
 (if (Option.isNone x0) = true then
 some (1,S) else
 ((book_Book_room_Room_at.f D H k x0 x1 S).bind fun p2 =>
 (if p2.1.2 = true then
 (x0.bind fun p4 =>
 ((p2.2.ldSl (HA.fld p4 1)).bind fun p5 =>
 ((p2.2.idx p5 p2.1.1 2).bind fun p6 =>
 ((p2.2.sets p6 [(.str x1),(.ptr x2)]).bind fun p7 =>
 J0 D H k p7)))) else
 (x0.bind fun p8 =>
 ((p2.2.ldSl (HA.fld p8 1)).bind fun p9 =>
 (x0.bind fun p10 =>
 ((p2.2.ldI .i64 (HA.fld p10 0)).bind fun p11 =>
 (if (Sl.len p9 : Int) ≥ p11 then
 some (7,p2.2) else
 (x0.bind fun p13 =>
 ((p2.2.ldSl (HA.fld p13 1)).bind fun p14 =>
 (letv (HS.lit p2.2 [[(.str x1),(.ptr x2)]] 2) fun p15 =>
 ((slices_Insert_book_entry_room_Room_book_entry_room_Room_w.f p14 p2.1.1 (p15.1) (p15.2)).bind fun p16 =>
 (x0.bind fun p17 =>
 ((p16.2.sets (HA.fld p17 1) [(Sl.hv p16.1)]).bind fun p18 =>
 J0 D H k p18))))))))))))))
theorem snd {x0 : HP} {x1 : (List UInt8)} {x2 : HP} {S : HS} (hD : DS base W0 D) (hH : HT base W0 β0 H)  {p : (Int) × HS} (h : f D H k x0 x1 x2 S = some p) : HCall Tryz.prog base W0 β0 48 [(.ptr x0),(.str x1),(.ptr x2)] S (fun v S1 => v = (.int .i64 p.1) ∧ S1 = p.2) := by
 unfold f at h
 refine HCall.of_run at_.at_ body ?_
 show HR base W0 β0 48 none [.code c0] ⟨[(.ptr x0),(.str x1),(.ptr x2),τ,τ,τ,τ,τ,τ,τ,τ,τ,τ,τ,τ,τ,τ,τ,τ,τ,τ,τ,τ,τ,τ,τ,τ,τ,τ,τ,τ,τ,τ,τ,τ,τ,τ,τ,τ,τ,τ,τ,τ,τ,τ,τ,τ,τ,τ,τ,τ,τ],[]⟩ S _
 refine qQ rfl (qR rfl rfl (qS 6 rfl (ok_assign · (.int _ _)) (rE ?_)))
 try dsimp only [w0,w1,w2,w3]
 refine qQ rfl (qQ rfl (qR rfl rfl (qS 9 rfl (oM · rfl) (qS 10 rfl (ok_nil_ptr · tu75 (.tmp rfl) (.inl ⟨rfl,rfl⟩)) (rE ?_)))))
 try dsimp only [w0,w1,w2,w3]
 rcases ifc h with ⟨hc1,h⟩ | ⟨hc1,h⟩
 ·refine q_cond_t rfl (.tmp rfl) hc1 (qQ rfl (qR rfl rfl (qS 6 rfl (ok_assign · (.int _ _)) (rE ?_))))
  cases h
  exact q_ret rfl at_.at_ rfl (res1 rfl rfl) ⟨rfl,rfl⟩
 ·obtain ⟨p2,hp2,h⟩ := bindo h
  refine q_cond_f rfl (.tmp rfl) (bfalse hc1) (q_skipc rfl (qQ rfl (qR rfl rfl (qS 12 rfl (oM · rfl) (qS 13 rfl (oM · rfl) (q_call (dst := some 14) rfl (.func _) (.cons (.tmp rfl) (.cons (.tmp rfl) Evs.nil)) (HInv.static book_Book_room_Room_at.at_ book_Book_room_Room_at.body (book_Book_room_Room_at.snd hD hH hp2)) ?_))))))
  rintro _ _ ⟨rfl,rfl⟩
  refine qS 11 rfl (oM · rfl) ?_
  try dsimp only [w0,w1,w2,w3]
  refine qS 15 rfl (ok_extract · (.tmp rfl) rfl) (qS 16 rfl (ok_extract · (.tmp rfl) rfl) (qS 7 rfl (oA · rfl) (qS 8 rfl (oA · rfl) (rE ?_))))
  try dsimp only [w0,w1,w2,w3]
  refine qQ rfl (q_block rfl (qQ rfl (qR rfl rfl (qS 31 rfl (oM · rfl) (qS 30 rfl (oA · rfl) (rE ?_))))))
  try dsimp only [w0,w1,w2,w3]
  rcases ifc h with ⟨hc3,h⟩ | ⟨hc3,h⟩
  ·obtain ⟨p4,hp4,h⟩ := bindo h
   obtain ⟨p5,hp5,h⟩ := bindo h
   refine q_cond_t rfl (.tmp rfl) hc3 (qR rfl rfl (qS 32 rfl (oM · rfl) (qS 33 rfl (oN · rfl hp4) (qS 34 rfl (oF · fi120_1 (by decide) rfl rfl) (qS 35 rfl (oL · sc118 rfl rfl (ldSl_out hp5)) ?_)))))
   try dsimp only [w0,w1,w2,w3]
   refine qS 36 rfl (oM · rfl) (qS 37 rfl (oM · rfl) (qS 38 rfl (oM · rfl) (qS 39 rfl (ok_build (is := [0,1]) (xs := [(.tmp 37),(.tmp 38)]) (r := [(.str x1),(.ptr x2)]) st133 · rfl rfl (.cons (.tmp rfl) (.cons (.tmp rfl) Evs.nil)) rfl) ?_)))
   try dsimp only [w0,w1,w2,w3]
   obtain ⟨p6,hp6,h⟩ := bindo h
   obtain ⟨p7,hp7,h⟩ := bindo h
   refine qS 40 rfl (oX (s := p5) · tu118 sz133 rfl rfl hp6) (qN rfl (ok_store_s (v := (.agg [(.str x1),(.ptr x2)])) · sz133 (.tmp rfl) rfl (.tmp rfl) rfl hp7) (rE ?_))
   try dsimp only [w0,w1,w2,w3]
   refine hr_inBlock ?_
   try dsimp only [w0,w1,w2,w3]
   exact J0_snd hD hH h
  ·refine q_cond_f rfl (.tmp rfl) (bfalse hc3) (qQ rfl ?_)
   refine x_start (cls := [0,0,0,1,0,0,0,0,1,0,0]) (rk := [0,1,2,3,4,5,6,7,8,9,10]) rfl (by kernel_rfl) ?_
   refine yf 42 [0] rfl (oM · rfl) ?_
   obtain ⟨p8,hp8,h⟩ := bindo h
   refine yf 43 [42] rfl (oN · rfl hp8) ?_
   refine yf 44 [43] rfl (oF · fi120_1 (by decide) rfl rfl) ?_
   obtain ⟨p9,hp9,h⟩ := bindo h
   refine yr 45 [44] rfl (oL · sc118 rfl rfl (ldSl_out hp9)) ?_
   try dsimp only [w0,w1,w2,w3]
   refine yf 46 [45] rfl (ok_len_sl (q := Sl.a p9) (n := Sl.len p9) (z := Sl.cap p9) · rfl tu118 (.tmp rfl)) ?_
   refine yf 47 [0] rfl (oM · rfl) ?_
   obtain ⟨p10,hp10,h⟩ := bindo h
   refine yf 48 [47] rfl (oN · rfl hp10) ?_
   refine yf 49 [48] rfl (oF · fi120_0 (by decide) rfl rfl) ?_
   try dsimp only [w0,w1,w2,w3]
   obtain ⟨p11,hp11,h⟩ := bindo h
   refine yr 50 [49] rfl (oL · sc3 rfl rfl (ldI_out hp11)) ?_
   refine yf 51 [46,50] rfl (oB · rfl rfl rfl) ?_
   refine yf 41 [51] rfl (oA · rfl) ?_
   refine x_rest rfl ?_
   refine rE ?_
   try dsimp only [w0,w1,w2,w3]
   rcases ifc h with ⟨hc12,h⟩ | ⟨hc12,h⟩
   ·refine q_cond_t rfl (.tmp rfl) (decide_eq_true hc12) (qQ rfl (qR rfl rfl (qS 6 rfl (ok_assign · (.int _ _)) (rE ?_))))
    cases h
    exact q_ret rfl at_.at_ rfl (res1 rfl rfl) ⟨rfl,rfl⟩
   ·obtain ⟨p13,hp13,h⟩ := bindo h
    refine q_cond_f rfl (.tmp rfl) (decide_eq_false hc12) (qR rfl rfl (qS 17 rfl (oM · rfl) (qS 18 rfl (oM · rfl) (qS 19 rfl (oN · rfl hp13) (qS 20 rfl (oF · fi120_1 (by decide) rfl rfl) ?_)))))
    try dsimp only [w0,w1,w2,w3]
    obtain ⟨p14,hp14,h⟩ := bindo h
    refine qS 21 rfl (oL · sc118 rfl rfl (ldSl_out hp14)) (qS 22 rfl (oM · rfl) (qS 23 rfl (oM · rfl) (qS 24 rfl (oM · rfl) ?_)))
    try dsimp only [w0,w1,w2,w3]
    obtain ⟨p15,hp15,h⟩ := leto h
    obtain ⟨p16,hp16,h⟩ := bindo h
    refine qS 25 rfl (ok_build (is := [0,1]) (xs := [(.tmp 23),(.tmp 24)]) (r := [(.str x1),(.ptr x2)]) st133 · rfl rfl (.cons (.tmp rfl) (.cons (.tmp rfl) Evs.nil)) rfl) (qS 26 rfl (ok_buildSlice_s (xs := [(.tmp 25)]) el118 · rfl rfl (by decide) (.cons (.tmp rfl) Evs.nil) rfl rfl hp15) (q_call (dst := some 27) rfl (.func _) (.cons (.tmp rfl) (.cons (.tmp rfl) (.cons (.tmp rfl) Evs.nil))) (HInv.static slices_Insert_book_entry_room_Room_book_entry_room_Room_w.at_ slices_Insert_book_entry_room_Room_book_entry_room_Room_w.body (slices_Insert_book_entry_room_Room_book_entry_room_Room_w.snd  hp16)) ?_))
    rintro _ _ ⟨rfl,rfl⟩
    obtain ⟨p17,hp17,h⟩ := bindo h
    refine qS 28 rfl (oN · rfl hp17) ?_
    try dsimp only [w0,w1,w2,w3]
    obtain ⟨p18,hp18,h⟩ := bindo h
    refine qS 29 rfl (oF · fi120_1 (by decide) rfl rfl) (qN rfl (ok_store_s (v := (Sl.hv p16.1)) · sz118 (.tmp rfl) rfl (.tmp rfl) rfl hp18) (rE ?_))
    try dsimp only [w0,w1,w2,w3]
    refine hr_inBlock ?_
    try dsimp only [w0,w1,w2,w3]
    exact J0_snd hD hH h
end book_Book_room_Room_Put
namespace slices_BinarySearchFunc_api_Member_api_Member_int
theorem at_ : FnAt Tryz.prog 96 Tryz.f96 := ⟨Tryz.func96,by kernel_rfl⟩
def d0 := (Tryz.f96.body).getD .skip
def r1 := kR (kA d0)
def r3 := kR (kA (kB d0))
def r5 := kR (kA (kB (kB d0)))
def d6 := kB (kB (kB d0))
def d9 := kA (kA (kA d6))
def r11 := kR (kA (kA d9))
def r17 := kR (kA (kA (kB d9)))
def r19 := kR (kA (kB (kA (kB d9))))
def r21 := kR (kA (kB (kB (kA (kB d9)))))
def r22 := kR (kB (kB (kB (kA (kB d9)))))
def r24 := kR (kA (kB d6))
def c25 : Code := .ret
def c23 : Code := .seq (.region 8 r24 false) c25
def c9 : Code := .seq (.seq (.region 3 r11 false) (.cond (.tmp 17) .skip (.exit 0))) (.block 1 (.seq (.region 4 r17 false) (.seq (.region 5 r19 false) (.cond (.tmp 31) (.region 6 r21 false) (.region 7 r22 false)))))
def c0 : Code := .seq (.region 0 r1 false) (.seq (.region 1 r3 false) (.seq (.region 2 r5 false) (.seq (.block 0 (.loop c9)) c23)))
theorem body : Tryz.f96.body = some c0 := by kernel_rfl
def J1 (D : Dp) (H : Hd) (k : Nat) (y35 : Int) (y48 : Bool) (S : HS) : Option ((Int × Bool) × HS) :=
 some ((y35,y48),S)
theorem J1_snd (hD : DS base W0 D) (hH : HT base W0 β0 H)  {y35 : Int} {y48 : Bool} {S : HS} {p : (Int × Bool) × HS} (h : J1 D H k y35 y48 S = some p) : HR base W0 β0 96 none [.inRegion r24 [14,15],.code c25] ⟨[Ga,Gb,Gc,Gd,Ge,Gf,Gg,Gh,Gi,Gj,Gk,Gl,Gm,Gn,Go,Gp,Gq,Gr,Gs,Gt,Gu,Gv,Gw,Gx,Gy,Gz,Ka,Kb,Kc,Kd,Ke,Kf,Kg,Kh,Ki,(.int .i64 y35),Kk,Kl,Km,Kn,Ko,Kp,Kq,Kr,Ks,Kt,Ku,Kv,(.bool y48)],[]⟩ S (fun v S1 => v = (.tup [(.int .i64 p.1.1),(.bool p.1.2)]) ∧ S1 = p.2) := by
 unfold J1 at h
 refine qS 6 rfl (oA · rfl) (qS 7 rfl (oA · rfl) (rE ?_))
 cases h
 exact q_ret rfl at_.at_ rfl (res2 rfl rfl rfl) ⟨rfl,rfl⟩
def L0 (D : Dp) (H : Hd) (k : Nat) : Nat → Sl → Int → HV → Int → Int → Int → HS → Option ((Int × Bool) × HS)
 | 0,_,_,_,_,_,_,_ => none
 | n + 1,y0,y1,y2,y8,y9,y10,S =>
  (if y9 < y10 then
  ((S.idx y0 (w64 (Int.fdiv (IntKind.wrap .u64 (w64 (y9 + y10))) (2 ^ (min (Int.toNat 1) (IntKind.bits .u64))))) 3).bind fun p2 =>
  ((S.ldI .i64 (HA.fld p2 0)).bind fun p3 =>
  ((S.ldB (HA.fld p2 1)).bind fun p4 =>
  ((S.ldB (HA.fld p2 2)).bind fun p5 =>
  ((D H y2 [(.agg [(.int .i64 p3),(.bool p4),(.bool p5)]),(.int .i64 y1)] S).bind fun p6 =>
  ((dI .i64 p6.1).bind fun p7 =>
  (if p7 < 0 then
  (L0 D H k n) y0 y1 y2 y8 (w64 ((w64 (Int.fdiv (IntKind.wrap .u64 (w64 (y9 + y10))) (2 ^ (min (Int.toNat 1) (IntKind.bits .u64))))) + 1)) y10 p6.2 else
  (L0 D H k n) y0 y1 y2 y8 y9 (w64 (Int.fdiv (IntKind.wrap .u64 (w64 (y9 + y10))) (2 ^ (min (Int.toNat 1) (IntKind.bits .u64))))) p6.2))))))) else
  (if y9 < y8 then
  ((S.idx y0 y9 3).bind fun p10 =>
  ((S.ldI .i64 (HA.fld p10 0)).bind fun p11 =>
  ((S.ldB (HA.fld p10 1)).bind fun p12 =>
  ((S.ldB (HA.fld p10 2)).bind fun p13 =>
  ((D H y2 [(.agg [(.int .i64 p11),(.bool p12),(.bool p13)]),(.int .i64 y1)] S).bind fun p14 =>
  ((dI .i64 p14.1).bind fun p15 =>
  J1 D H k y9 (decide (p15 = 0)) p14.2)))))) else
  J1 D H k y9 false S))
theorem L0_snd (hD : DS base W0 D) (hH : HT base W0 β0 H)  : ∀ {n : Nat} ⦃y0 : Sl⦄ ⦃y1 : Int⦄ ⦃y2 : HV⦄ ⦃y8 : Int⦄ ⦃y9 : Int⦄ ⦃y10 : Int⦄ ⦃S : HS⦄ ⦃p : (Int × Bool) × HS⦄ ⦃Gd Ge Gf Gg Gh Gl Gm Gn Go Gp Gq Gr Gs Gt Gu Gv Gw Gx Gy Gz Ka Kb Kc Kd Ke Kf Kg Kh Ki Kj Kk Kl Km Kn Ko Kp Kq Kr Ks Kt Ku Kv Kw : HV⦄,L0 D H k n y0 y1 y2 y8 y9 y10 S = some p → HR base W0 β0 96 none [.inLoop c9,.inBlock 0,.code c23] ⟨[(Sl.hv y0),(.int .i64 y1),y2,Gd,Ge,Gf,Gg,Gh,(.int .i64 y8),(.int .i64 y9),(.int .i64 y10),Gl,Gm,Gn,Go,Gp,Gq,Gr,Gs,Gt,Gu,Gv,Gw,Gx,Gy,Gz,Ka,Kb,Kc,Kd,Ke,Kf,Kg,Kh,Ki,Kj,Kk,Kl,Km,Kn,Ko,Kp,Kq,Kr,Ks,Kt,Ku,Kv,Kw],[]⟩ S (fun v S1 => v = (.tup [(.int .i64 p.1.1),(.bool p.1.2)]) ∧ S1 = p.2) := by
 intro n
 induction n with
 | zero => intro _ _ _ _ _ _ _ _ _ _ _ _ _ _ _ _ _ _ _ _ _ _ _ _ _ _ _ _ _ _ _ _ _ _ _ _ _ _ _ _ _ _ _ _ _ _ _ _ _ _ _ h; cases h
 | succ n ih =>
  intro y0 y1 y2 y8 y9 y10 S p Gd Ge Gf Gg Gh Gl Gm Gn Go Gp Gq Gr Gs Gt Gu Gv Gw Gx Gy Gz Ka Kb Kc Kd Ke Kf Kg Kh Ki Kj Kk Kl Km Kn Ko Kp Kq Kr Ks Kt Ku Kv Kw h
  simp only [L0] at h
  refine hr_inLoop (qQ rfl (qQ rfl (qR rfl rfl (qS 15 rfl (oM · rfl) (qS 16 rfl (oM · rfl) (qS 17 rfl (oB · rfl rfl rfl) (rE ?_)))))))
  try dsimp only [w0,w1,w2,w3]
  rcases ifc h with ⟨hc1,h⟩ | ⟨hc1,h⟩
  ·refine q_cond_t rfl (.tmp rfl) (decide_eq_true hc1) (q_skipc rfl (q_block rfl (qQ rfl (qR rfl rfl (qS 18 rfl (oM · rfl) (qS 19 rfl (oM · rfl) (qS 20 rfl (oB · rfl rfl rfl) (qS 21 rfl (ok_conv_int · tu3 tu166 (.tmp rfl)) ?_))))))))
   try dsimp only [w0,w1,w2,w3]
   refine qS 22 rfl (ok_shr · (.tmp rfl) (.int _ _) (by decide)) (qS 23 rfl (ok_conv_int · tu166 tu3 (.tmp rfl)) (qS 11 rfl (oA · rfl) (rE ?_)))
   try dsimp only [w0,w1,w2,w3]
   obtain ⟨p2,hp2,h⟩ := bindo h
   refine qQ rfl (qR rfl rfl (qS 24 rfl (oM · rfl) (qS 25 rfl (oM · rfl) (qS 26 rfl (oM · rfl) (qS 27 rfl (oX (s := y0) · tu87 sz62 rfl rfl hp2) ?_)))))
   try dsimp only [w0,w1,w2,w3]
   obtain ⟨p3,hp3,h⟩ := bindo h
   obtain ⟨p4,hp4,h⟩ := bindo h
   obtain ⟨p5,hp5,h⟩ := bindo h
   obtain ⟨p6,hp6,h⟩ := bindo h
   obtain ⟨p7,hp7,h⟩ := bindo h
   refine qS 28 rfl (ok_load_a (vs := [(.int .i64 p3),(.bool p4),(.bool p5)]) · ia62 (.tmp rfl) rfl ⟨ldI_out hp3,ldB_out hp4,ldB_out hp5,trivial⟩ (by simp)) (qS 29 rfl (oM · rfl) (q_call (dst := some 30) rfl (.tmp rfl) (.cons (.tmp rfl) (.cons (.tmp rfl) Evs.nil)) (hD _ _ hH _ _ _ _ _ hp6) ?_))
   rintro _ _ ⟨rfl,rfl⟩
   rw [dI_out hp7]
   refine qS 31 rfl (oC · rfl rfl) (rE ?_)
   try dsimp only [w0,w1,w2,w3]
   rcases ifc h with ⟨hc8,h⟩ | ⟨hc8,h⟩
   ·refine q_cond_t rfl (.tmp rfl) (decide_eq_true hc8) (qR rfl rfl (qS 32 rfl (oM · rfl) (qS 33 rfl (oC · rfl rfl) (qS 9 rfl (oA · rfl) (rE ?_)))))
    try dsimp only [w0,w1,w2,w3]
    refine hr_inBlock ?_
    try dsimp only [w0,w1,w2,w3]
    exact ih h
   ·refine q_cond_f rfl (.tmp rfl) (decide_eq_false hc8) (qR rfl rfl (qS 34 rfl (oM · rfl) (qS 10 rfl (oA · rfl) (rE ?_))))
    try dsimp only [w0,w1,w2,w3]
    refine hr_inBlock ?_
    try dsimp only [w0,w1,w2,w3]
    exact ih h
  ·refine q_cond_f rfl (.tmp rfl) (decide_eq_false hc1) (q_exit rfl rfl (qQ rfl (qR rfl rfl (qS 35 rfl (oM · rfl) (qS 36 rfl (oM · rfl) (qS 37 rfl (oM · rfl) (qS 38 rfl (oB · rfl rfl rfl) ?_)))))))
   try dsimp only [w0,w1,w2,w3]
   refine qS 39 rfl (oM · rfl) ?_
   rcases ifc h with ⟨hc9,h⟩ | ⟨hc9,h⟩
   ·refine qG 39 40 rfl (decide_eq_true hc9) (oM · rfl) (qG 39 41 rfl (decide_eq_true hc9) (oM · rfl) (qG 39 42 rfl (decide_eq_true hc9) (oM · rfl) ?_))
    try dsimp only [w0,w1,w2,w3]
    obtain ⟨p10,hp10,h⟩ := bindo h
    obtain ⟨p11,hp11,h⟩ := bindo h
    obtain ⟨p12,hp12,h⟩ := bindo h
    obtain ⟨p13,hp13,h⟩ := bindo h
    obtain ⟨p14,hp14,h⟩ := bindo h
    obtain ⟨p15,hp15,h⟩ := bindo h
    refine qG 39 43 rfl (decide_eq_true hc9) (oX (s := y0) · tu87 sz62 rfl rfl hp10) (qG 39 44 rfl (decide_eq_true hc9) (ok_load_a (vs := [(.int .i64 p11),(.bool p12),(.bool p13)]) · ia62 (.tmp rfl) rfl ⟨ldI_out hp11,ldB_out hp12,ldB_out hp13,trivial⟩ (by simp)) (qG 39 45 rfl (decide_eq_true hc9) (oM · rfl) (q_call_g (t := 39) (dst := some 46) rfl rfl rfl (decide_eq_true hc9) (.tmp rfl) (.cons (.tmp rfl) (.cons (.tmp rfl) Evs.nil)) (hD _ _ hH _ _ _ _ _ hp14) ?_)))
    rintro _ _ ⟨rfl,rfl⟩
    rw [dI_out hp15]
    try dsimp only [w0,w1,w2,w3]
    refine qG 39 47 rfl (decide_eq_true hc9) (oC · rfl rfl) (qS 48 rfl (ok_pick_tt · (.tmp rfl) (decide_eq_true hc9) (.tmp rfl)) ?_)
    try dsimp only [w0,w1,w2,w3]
    exact J1_snd hD hH h
   ·refine q_skip (dst := some 40) (t := 39) rfl rfl rfl (decide_eq_false hc9) (q_skip (dst := some 41) (t := 39) rfl rfl rfl (decide_eq_false hc9) (q_skip (dst := some 42) (t := 39) rfl rfl rfl (decide_eq_false hc9) ?_))
    try dsimp only [w0,w1,w2,w3]
    refine q_skip (dst := some 43) (t := 39) rfl rfl rfl (decide_eq_false hc9) (q_skip (dst := some 44) (t := 39) rfl rfl rfl (decide_eq_false hc9) (q_skip (dst := some 45) (t := 39) rfl rfl rfl (decide_eq_false hc9) (q_skip (dst := some 46) (t := 39) rfl rfl rfl (decide_eq_false hc9) ?_)))
    try dsimp only [w0,w1,w2,w3]
    refine q_skip (dst := some 47) (t := 39) rfl rfl rfl (decide_eq_false hc9) (qS 48 rfl (ok_pick_ff · (.tmp rfl) (decide_eq_false hc9) (.bool _)) ?_)
    try dsimp only [w0,w1,w2,w3]
    exact J1_snd hD hH h
def f (D : Dp) (H : Hd) (k : Nat) (x0 : Sl) (x1 : Int) (x2 : HV) (S : HS) : Option ((Int × Bool) × HS) :=
 L0 D H k k x0 x1 x2 (Sl.len x0 : Int) 0 (Sl.len x0 : Int) S
theorem snd {x0 : Sl} {x1 : Int} {x2 : HV} {S : HS} (hD : DS base W0 D) (hH : HT base W0 β0 H)  {p : (Int × Bool) × HS} (h : f D H k x0 x1 x2 S = some p) : HCall Tryz.prog base W0 β0 96 [(Sl.hv x0),(.int .i64 x1),x2] S (fun v S1 => v = (.tup [(.int .i64 p.1.1),(.bool p.1.2)]) ∧ S1 = p.2) := by
 unfold f at h
 refine HCall.of_run at_.at_ body ?_
 show HR base W0 β0 96 none [.code c0] ⟨[(Sl.hv x0),(.int .i64 x1),x2,τ,τ,τ,τ,τ,τ,τ,τ,τ,τ,τ,τ,τ,τ,τ,τ,τ,τ,τ,τ,τ,τ,τ,τ,τ,τ,τ,τ,τ,τ,τ,τ,τ,τ,τ,τ,τ,τ,τ,τ,τ,τ,τ,τ,τ,τ],[]⟩ S _
 refine qQ rfl (qR rfl rfl (qS 6 rfl (ok_assign · (.int _ _)) (qS 7 rfl (ok_assign · (.bool _)) (rE ?_))))
 try dsimp only [w0,w1,w2,w3]
 refine qQ rfl (qR rfl rfl (qS 12 rfl (oM · rfl) (qS 13 rfl (ok_len_sl (q := Sl.a x0) (n := Sl.len x0) (z := Sl.cap x0) · rfl tu87 (.tmp rfl)) (qS 8 rfl (oA · rfl) (rE ?_)))))
 try dsimp only [w0,w1,w2,w3]
 refine qQ rfl (qR rfl rfl (qS 14 rfl (oM · rfl) (qS 9 rfl (ok_assign · (.int _ _)) (qS 10 rfl (oA · rfl) (rE ?_)))))
 try dsimp only [w0,w1,w2,w3]
 refine qQ rfl (q_block rfl (q_loop rfl ?_))
 try dsimp only [w0,w1,w2,w3]
 exact L0_snd hD hH h
end slices_BinarySearchFunc_api_Member_api_Member_int
namespace cmp_Compare_int
theorem at_ : FnAt Tryz.prog 98 Tryz.f98 := ⟨Tryz.func98,by kernel_rfl⟩
def d0 := (Tryz.f98.body).getD .skip
def r1 := kR (kA d0)
def r3 := kR (kA (kB d0))
def r5 := kR (kA (kB (kB d0)))
def d6 := kB (kB (kB d0))
def r8 := kR (kA (kA d6))
def r12 := kR (kA (kA (kA (kB (kA d6)))))
def r15 := kR (kA (kA (kB (kA (kA (kB (kA d6)))))))
def r19 := kR (kA (kB (kA (kB (kA d6)))))
def r24 := kR (kA (kA (kB d6)))
def r27 := kR (kA (kA (kB (kA (kB d6)))))
def r32 := kR (kA (kA (kB (kB d6))))
def r35 := kR (kA (kA (kB (kA (kB (kB d6))))))
def r40 := kR (kA (kA (kB (kB (kB d6)))))
def r43 := kR (kA (kA (kB (kA (kB (kB (kB d6)))))))
def r47 := kR (kA (kB (kB (kB (kB d6)))))
def c0 : Code := .seq (.region 0 r1 false) (.seq (.region 1 r3 false) (.seq (.region 2 r5 false) (.seq (.seq (.region 3 r8 false) (.cond (.tmp 11) (.seq (.seq (.region 4 r12 false) (.cond (.tmp 12) (.seq (.region 5 r15 false) .ret) .skip)) (.seq (.region 6 r19 false) .ret)) .skip)) (.seq (.seq (.region 7 r24 false) (.cond (.tmp 13) (.seq (.region 8 r27 false) .ret) .skip)) (.seq (.seq (.region 9 r32 false) (.cond (.tmp 16) (.seq (.region 10 r35 false) .ret) .skip)) (.seq (.seq (.region 11 r40 false) (.cond (.tmp 19) (.seq (.region 12 r43 false) .ret) .skip)) (.seq (.region 13 r47 false) .ret)))))))
theorem body : Tryz.f98.body = some c0 := by kernel_rfl
def f (x0 : Int) (x1 : Int) : Option (Int) :=
 ((cmp_isNaN_int.f x0).bind fun p1 =>
 ((cmp_isNaN_int.f x1).bind fun p2 =>
 (if p1 = true then
 (if p2 = true then
 some 0 else
 some (-1)) else
 (if p2 = true then
 some 1 else
 (if x0 < x1 then
 some (-1) else
 (if x0 > x1 then
 some 1 else
 some 0))))))
theorem snd {x0 : Int} {x1 : Int} {S : HS}  {p : Int} (h : f x0 x1 = some p) : HCall Tryz.prog base W0 β0 98 [(.int .i64 x0),(.int .i64 x1)] S (fun v S1 => v = (.int .i64 p) ∧ S1 = S) := by
 unfold f at h
 refine HCall.of_run at_.at_ body ?_
 show HR base W0 β0 98 none [.code c0] ⟨[(.int .i64 x0),(.int .i64 x1),τ,τ,τ,τ,τ,τ,τ,τ,τ,τ,τ,τ,τ,τ,τ,τ,τ,τ],[]⟩ S _
 refine qQ rfl (qR rfl rfl (qS 4 rfl (ok_assign · (.int _ _)) (rE ?_)))
 try dsimp only [w0,w1,w2,w3]
 obtain ⟨p1,hp1,h⟩ := bindo h
 refine qQ rfl (qR rfl rfl (qS 7 rfl (oM · rfl) (q_call (dst := some 8) rfl (.func _) (.cons (.tmp rfl) Evs.nil) (HInv.static cmp_isNaN_int.at_ cmp_isNaN_int.body (cmp_isNaN_int.snd  hp1)) ?_)))
 rintro _ _ ⟨rfl,rfl⟩
 refine qS 5 rfl (oA · rfl) (rE ?_)
 try dsimp only [w0,w1,w2,w3]
 obtain ⟨p2,hp2,h⟩ := bindo h
 refine qQ rfl (qR rfl rfl (qS 9 rfl (oM · rfl) (q_call (dst := some 10) rfl (.func _) (.cons (.tmp rfl) Evs.nil) (HInv.static cmp_isNaN_int.at_ cmp_isNaN_int.body (cmp_isNaN_int.snd  hp2)) ?_)))
 rintro _ _ ⟨rfl,rfl⟩
 refine qS 6 rfl (oA · rfl) (rE ?_)
 try dsimp only [w0,w1,w2,w3]
 refine qQ rfl (qQ rfl (qR rfl rfl (qS 11 rfl (oM · rfl) (rE ?_))))
 try dsimp only [w0,w1,w2,w3]
 rcases ifc h with ⟨hc3,h⟩ | ⟨hc3,h⟩
 ·refine q_cond_t rfl (.tmp rfl) hc3 (qQ rfl (qQ rfl (qR rfl rfl (qS 12 rfl (oM · rfl) (rE ?_)))))
  try dsimp only [w0,w1,w2,w3]
  rcases ifc h with ⟨hc4,h⟩ | ⟨hc4,h⟩
  ·refine q_cond_t rfl (.tmp rfl) hc4 (qQ rfl (qR rfl rfl (qS 4 rfl (ok_assign · (.int _ _)) (rE ?_))))
   cases h
   exact q_ret rfl at_.at_ rfl (res1 rfl rfl) ⟨rfl,rfl⟩
  ·refine q_cond_f rfl (.tmp rfl) (bfalse hc4) (q_skipc rfl (qQ rfl (qR rfl rfl (qS 4 rfl (ok_assign · (.int _ _)) (rE ?_)))))
   cases h
   exact q_ret rfl at_.at_ rfl (res1 rfl rfl) ⟨rfl,rfl⟩
 ·refine q_cond_f rfl (.tmp rfl) (bfalse hc3) (q_skipc rfl (qQ rfl (qQ rfl (qR rfl rfl (qS 13 rfl (oM · rfl) (rE ?_))))))
  try dsimp only [w0,w1,w2,w3]
  rcases ifc h with ⟨hc5,h⟩ | ⟨hc5,h⟩
  ·refine q_cond_t rfl (.tmp rfl) hc5 (qQ rfl (qR rfl rfl (qS 4 rfl (ok_assign · (.int _ _)) (rE ?_))))
   cases h
   exact q_ret rfl at_.at_ rfl (res1 rfl rfl) ⟨rfl,rfl⟩
  ·refine q_cond_f rfl (.tmp rfl) (bfalse hc5) (q_skipc rfl (qQ rfl (qQ rfl (qR rfl rfl (qS 14 rfl (oM · rfl) (qS 15 rfl (oM · rfl) (qS 16 rfl (oB · rfl rfl rfl) (rE ?_))))))))
   try dsimp only [w0,w1,w2,w3]
   rcases ifc h with ⟨hc6,h⟩ | ⟨hc6,h⟩
   ·refine q_cond_t rfl (.tmp rfl) (decide_eq_true hc6) (qQ rfl (qR rfl rfl (qS 4 rfl (ok_assign · (.int _ _)) (rE ?_))))
    cases h
    exact q_ret rfl at_.at_ rfl (res1 rfl rfl) ⟨rfl,rfl⟩
   ·refine q_cond_f rfl (.tmp rfl) (decide_eq_false hc6) (q_skipc rfl (qQ rfl (qQ rfl (qR rfl rfl (qS 17 rfl (oM · rfl) (qS 18 rfl (oM · rfl) (qS 19 rfl (oB · rfl rfl rfl) (rE ?_))))))))
    try dsimp only [w0,w1,w2,w3]
    rcases ifc h with ⟨hc7,h⟩ | ⟨hc7,h⟩
    ·refine q_cond_t rfl (.tmp rfl) (decide_eq_true hc7) (qQ rfl (qR rfl rfl (qS 4 rfl (ok_assign · (.int _ _)) (rE ?_))))
     cases h
     exact q_ret rfl at_.at_ rfl (res1 rfl rfl) ⟨rfl,rfl⟩
    ·refine q_cond_f rfl (.tmp rfl) (decide_eq_false hc7) (q_skipc rfl (qQ rfl (qR rfl rfl (qS 4 rfl (ok_assign · (.int _ _)) (rE ?_)))))
     cases h
     exact q_ret rfl at_.at_ rfl (res1 rfl rfl) ⟨rfl,rfl⟩
end cmp_Compare_int
namespace room_Room_at_1
theorem at_ : FnAt Tryz.prog 97 Tryz.f97 := ⟨Tryz.func97,by kernel_rfl⟩
def d0 := (Tryz.f97.body).getD .skip
def r1 := kR (kA d0)
def r3 := kR (kA (kB d0))
def c0 : Code := .seq (.region 0 r1 false) (.seq (.region 1 r3 false) .ret)
theorem body : Tryz.f97.body = some c0 := by kernel_rfl
def f (x0_0 : Int) (x0_1 : Bool) (x0_2 : Bool) (x1 : Int) (S : HS) : Option ((Int) × HS) :=
 (letv (HS.new S (.cells 3 [[(.int .i64 x0_0),(.bool x0_1),(.bool x0_2)]] true)) fun p1 =>
 ((p1.ldI .i64 (HA.fld (HA.cell0 S.next) 0)).bind fun p2 =>
 ((cmp_Compare_int.f p2 x1).bind fun p3 =>
 some (p3,p1))))
theorem snd {x0_0 : Int} {x0_1 : Bool} {x0_2 : Bool} {x1 : Int} {S : HS}  {p : (Int) × HS} (h : f x0_0 x0_1 x0_2 x1 S = some p) : HCall Tryz.prog base W0 β0 97 [(.agg [(.int .i64 x0_0),(.bool x0_1),(.bool x0_2)]),(.int .i64 x1)] S (fun v S1 => v = (.int .i64 p.1) ∧ S1 = p.2) := by
 unfold f at h
 refine HCall.of_run at_.at_ body ?_
 show HR base W0 β0 97 none [.code c0] ⟨[(.agg [(.int .i64 x0_0),(.bool x0_1),(.bool x0_2)]),(.int .i64 x1),τ,τ,τ,τ,τ,τ,τ],[]⟩ S _
 obtain ⟨p1,hp1,h⟩ := leto h
 refine qQ rfl (qR rfl rfl (qS 2 rfl (ok_box_e · (.tmp rfl) (Nat.zero_lt_succ _) rfl hp1) (qS 4 rfl (ok_assign · (.int _ _)) (rE ?_))))
 try dsimp only [w0,w1,w2,w3]
 obtain ⟨p2,hp2,h⟩ := bindo h
 obtain ⟨p3,hp3,h⟩ := bindo h
 refine qQ rfl (qR rfl rfl (qS 5 rfl (oF · fi62_0 (by decide) rfl rfl) (qS 6 rfl (oL · sc3 rfl rfl (ldI_out hp2)) (qS 7 rfl (oM · rfl) (q_call (dst := some 8) rfl (.func _) (.cons (.tmp rfl) (.cons (.tmp rfl) Evs.nil)) (HInv.static cmp_Compare_int.at_ cmp_Compare_int.body (cmp_Compare_int.snd  hp3)) ?_)))))
 rintro _ _ ⟨rfl,rfl⟩
 try dsimp only [w0,w1,w2,w3]
 refine qS 4 rfl (oA · rfl) (rE ?_)
 cases h
 exact q_ret rfl at_.at_ rfl (res1 rfl rfl) ⟨rfl,rfl⟩
end room_Room_at_1
namespace room_Room_at
theorem at_ : FnAt Tryz.prog 65 Tryz.f65 := ⟨Tryz.func65,by kernel_rfl⟩
def d0 := (Tryz.f65.body).getD .skip
def r1 := kR (kA d0)
def r4 := kR (kA (kA (kB d0)))
def r7 := kR (kA (kA (kB (kA (kB d0)))))
def r11 := kR (kA (kB (kB d0)))
def c0 : Code := .seq (.region 0 r1 false) (.seq (.seq (.region 1 r4 false) (.cond (.tmp 7) (.seq (.region 2 r7 false) .ret) .skip)) (.seq (.region 3 r11 false) .ret))
theorem body : Tryz.f65.body = some c0 := by kernel_rfl
def f (D : Dp) (H : Hd) (k : Nat) (x0 : HP) (x1 : Int) (S : HS) : Option ((Int × Bool) × HS) :=
 (if (Option.isNone x0) = true then
 some ((0,false),S) else
 (x0.bind fun p2 =>
 ((S.ldSl (HA.fld p2 2)).bind fun p3 =>
 ((slices_BinarySearchFunc_api_Member_api_Member_int.f D H k p3 x1 (HV.fn (.func 97) [] []) S).bind fun p4 =>
 some ((p4.1.1,p4.1.2),p4.2)))))
theorem snd {x0 : HP} {x1 : Int} {S : HS} (hD : DS base W0 D) (hH : HT base W0 β0 H)  {p : (Int × Bool) × HS} (h : f D H k x0 x1 S = some p) : HCall Tryz.prog base W0 β0 65 [(.ptr x0),(.int .i64 x1)] S (fun v S1 => v = (.tup [(.int .i64 p.1.1),(.bool p.1.2)]) ∧ S1 = p.2) := by
 unfold f at h
 refine HCall.of_run at_.at_ body ?_
 show HR base W0 β0 65 none [.code c0] ⟨[(.ptr x0),(.int .i64 x1),τ,τ,τ,τ,τ,τ,τ,τ,τ,τ,τ,τ,τ,τ],[]⟩ S _
 refine qQ rfl (qR rfl rfl (qS 4 rfl (ok_assign · (.int _ _)) (qS 5 rfl (ok_assign · (.bool _)) (rE ?_))))
 try dsimp only [w0,w1,w2,w3]
 refine qQ rfl (qQ rfl (qR rfl rfl (qS 6 rfl (oM · rfl) (qS 7 rfl (ok_nil_ptr · tu36 (.tmp rfl) (.inl ⟨rfl,rfl⟩)) (rE ?_)))))
 try dsimp only [w0,w1,w2,w3]
 rcases ifc h with ⟨hc1,h⟩ | ⟨hc1,h⟩
 ·refine q_cond_t rfl (.tmp rfl) hc1 (qQ rfl (qR rfl rfl (qS 4 rfl (ok_assign · (.int _ _)) (qS 5 rfl (ok_assign · (.bool _)) (rE ?_)))))
  cases h
  exact q_ret rfl at_.at_ rfl (res2 rfl rfl rfl) ⟨rfl,rfl⟩
 ·obtain ⟨p2,hp2,h⟩ := bindo h
  obtain ⟨p3,hp3,h⟩ := bindo h
  refine q_cond_f rfl (.tmp rfl) (bfalse hc1) (q_skipc rfl (qQ rfl (qR rfl rfl (qS 8 rfl (oM · rfl) (qS 9 rfl (oN · rfl hp2) (qS 10 rfl (oF · fi114_2 (by decide) rfl rfl) (qS 11 rfl (oL · sc87 rfl rfl (ldSl_out hp3)) ?_)))))))
  try dsimp only [w0,w1,w2,w3]
  obtain ⟨p4,hp4,h⟩ := bindo h
  refine qS 12 rfl (oM · rfl) (q_call (dst := some 13) rfl (.func _) (.cons (.tmp rfl) (.cons (.tmp rfl) (.cons (.func _) Evs.nil))) (HInv.static slices_BinarySearchFunc_api_Member_api_Member_int.at_ slices_BinarySearchFunc_api_Member_api_Member_int.body (slices_BinarySearchFunc_api_Member_api_Member_int.snd hD hH hp4)) ?_)
  rintro _ _ ⟨rfl,rfl⟩
  refine qS 14 rfl (ok_extract · (.tmp rfl) rfl) (qS 15 rfl (ok_extract · (.tmp rfl) rfl) ?_)
  try dsimp only [w0,w1,w2,w3]
  refine qS 4 rfl (oA · rfl) (qS 5 rfl (oA · rfl) (rE ?_))
  cases h
  exact q_ret rfl at_.at_ rfl (res2 rfl rfl rfl) ⟨rfl,rfl⟩
end room_Room_at
namespace slices_Reverse_api_Member_api_Member
theorem at_ : FnAt Tryz.prog 136 Tryz.f136 := ⟨Tryz.func136,by kernel_rfl⟩
def d0 := (Tryz.f136.body).getD .skip
def r1 := kR (kA d0)
def r6 := kR (kA (kA (kA (kA (kB d0)))))
def r12 := kR (kA (kA (kB (kA (kA (kB d0))))))
def r13 := kR (kB (kB (kA (kA (kB d0)))))
def c4 : Code := .seq (.seq (.region 1 r6 false) (.cond (.tmp 9) .skip (.exit 0))) (.seq (.block 1 (.region 3 r12 true)) (.region 2 r13 false))
def c0 : Code := .seq (.region 0 r1 false) (.block 0 (.loop c4))
theorem body : Tryz.f136.body = some c0 := by kernel_rfl
def L0 (k : Nat) : Nat → Sl → Int → Int → HS → Option ((Unit) × HS)
 | 0,_,_,_,_ => none
 | n + 1,y0,y2,y3,S =>
  (if y2 < y3 then
  ((S.idx y0 y3 3).bind fun p2 =>
  ((S.ldI .i64 (HA.fld p2 0)).bind fun p3 =>
  ((S.ldB (HA.fld p2 1)).bind fun p4 =>
  ((S.ldB (HA.fld p2 2)).bind fun p5 =>
  ((S.idx y0 y2 3).bind fun p6 =>
  ((S.ldI .i64 (HA.fld p6 0)).bind fun p7 =>
  ((S.ldB (HA.fld p6 1)).bind fun p8 =>
  ((S.ldB (HA.fld p6 2)).bind fun p9 =>
  ((S.idx y0 y2 3).bind fun p10 =>
  ((S.sets p10 [(.int .i64 p3),(.bool p4),(.bool p5)]).bind fun p11 =>
  ((p11.idx y0 y3 3).bind fun p12 =>
  ((p11.sets p12 [(.int .i64 p7),(.bool p8),(.bool p9)]).bind fun p13 =>
  (L0 k n) y0 (w64 (y2 + 1)) (w64 (y3 - 1)) p13)))))))))))) else
  some ((),S))
theorem L0_snd  : ∀ {n : Nat} ⦃y0 : Sl⦄ ⦃y2 : Int⦄ ⦃y3 : Int⦄ ⦃S : HS⦄ ⦃p : (Unit) × HS⦄ ⦃Gb Ge Gf Gg Gh Gi Gj Gk Gl Gm Gn Go Gp Gq Gr Gs Gt Gu Gv Gw Gx Gy Gz Ka Kb : HV⦄,L0 k n y0 y2 y3 S = some p → HR base W0 β0 136 none [.inLoop c4,.inBlock 0] ⟨[(Sl.hv y0),Gb,(.int .i64 y2),(.int .i64 y3),Ge,Gf,Gg,Gh,Gi,Gj,Gk,Gl,Gm,Gn,Go,Gp,Gq,Gr,Gs,Gt,Gu,Gv,Gw,Gx,Gy,Gz,Ka,Kb],[]⟩ S (fun v S1 => v = (.tup []) ∧ S1 = p.2) := by
 intro n
 induction n with
 | zero => intro _ _ _ _ _ _ _ _ _ _ _ _ _ _ _ _ _ _ _ _ _ _ _ _ _ _ _ _ _ _ h; cases h
 | succ n ih =>
  intro y0 y2 y3 S p Gb Ge Gf Gg Gh Gi Gj Gk Gl Gm Gn Go Gp Gq Gr Gs Gt Gu Gv Gw Gx Gy Gz Ka Kb h
  simp only [L0] at h
  refine hr_inLoop (qQ rfl (qQ rfl (qR rfl rfl (qS 7 rfl (oM · rfl) (qS 8 rfl (oM · rfl) (qS 9 rfl (oB · rfl rfl rfl) (rE ?_)))))))
  try dsimp only [w0,w1,w2,w3]
  rcases ifc h with ⟨hc1,h⟩ | ⟨hc1,h⟩
  ·refine q_cond_t rfl (.tmp rfl) (decide_eq_true hc1) (q_skipc rfl (qQ rfl (q_block rfl ?_)))
   refine x_start (cls := [0,0,0,0,0,0,1,1,0,0,1,1,1,2,1,2]) (rk := [0,1,12,13,2,3,4,5,6,7,8,9,10,11,14,15]) rfl (by kernel_rfl) ?_
   refine yf 14 [0] rfl (oM · rfl) ?_
   refine yf 15 [2] rfl (oM · rfl) ?_
   refine yf 16 [0] rfl (oM · rfl) ?_
   refine yf 17 [3] rfl (oM · rfl) ?_
   try dsimp only [w0,w1,w2,w3]
   refine yf 18 [0] rfl (oM · rfl) ?_
   refine yf 19 [3] rfl (oM · rfl) ?_
   obtain ⟨p2,hp2,h⟩ := bindo h
   refine yr 20 [18,19] rfl (oX (s := y0) · tu87 sz62 rfl rfl hp2) ?_
   obtain ⟨p3,hp3,h⟩ := bindo h
   obtain ⟨p4,hp4,h⟩ := bindo h
   obtain ⟨p5,hp5,h⟩ := bindo h
   refine yr 21 [20] rfl (ok_load_a (vs := [(.int .i64 p3),(.bool p4),(.bool p5)]) · ia62 (.tmp rfl) rfl ⟨ldI_out hp3,ldB_out hp4,ldB_out hp5,trivial⟩ (by simp)) ?_
   try dsimp only [w0,w1,w2,w3]
   refine yf 22 [0] rfl (oM · rfl) ?_
   refine yf 23 [2] rfl (oM · rfl) ?_
   obtain ⟨p6,hp6,h⟩ := bindo h
   refine yr 24 [22,23] rfl (oX (s := y0) · tu87 sz62 rfl rfl hp6) ?_
   obtain ⟨p7,hp7,h⟩ := bindo h
   obtain ⟨p8,hp8,h⟩ := bindo h
   obtain ⟨p9,hp9,h⟩ := bindo h
   refine yr 25 [24] rfl (ok_load_a (vs := [(.int .i64 p7),(.bool p8),(.bool p9)]) · ia62 (.tmp rfl) rfl ⟨ldI_out hp7,ldB_out hp8,ldB_out hp9,trivial⟩ (by simp)) ?_
   try dsimp only [w0,w1,w2,w3]
   obtain ⟨p10,hp10,h⟩ := bindo h
   refine yr 26 [14,15] rfl (oX (s := y0) · tu87 sz62 rfl rfl hp10) ?_
   obtain ⟨p11,hp11,h⟩ := bindo h
   refine x_go (e_op (dst := none) (ts := [26,21]) rfl (by intro _ _ h; cases h) (by kernel_rfl) (fun _ ho => ok_store_s (v := (.agg [(.int .i64 p3),(.bool p4),(.bool p5)])) ho sz62 (.tmp rfl) rfl (.tmp rfl) rfl hp11)) rfl ?_
   obtain ⟨p12,hp12,h⟩ := bindo h
   refine yr 27 [16,17] rfl (oX (s := y0) · tu87 sz62 rfl rfl hp12) ?_
   obtain ⟨p13,hp13,h⟩ := bindo h
   refine x_go (e_op (dst := none) (ts := [27,25]) rfl (by intro _ _ h; cases h) (by kernel_rfl) (fun _ ho => ok_store_s (v := (.agg [(.int .i64 p7),(.bool p8),(.bool p9)])) ho sz62 (.tmp rfl) rfl (.tmp rfl) rfl hp13)) rfl ?_
   refine x_rest rfl ?_
   refine rE ?_
   try dsimp only [w0,w1,w2,w3]
   refine hr_inBlock (qR rfl rfl (qS 10 rfl (oM · rfl) (qS 11 rfl (oC · rfl rfl) (qS 12 rfl (oM · rfl) (qS 13 rfl (oC · rfl rfl) ?_)))))
   try dsimp only [w0,w1,w2,w3]
   refine qS 2 rfl (oA · rfl) (qS 3 rfl (oA · rfl) (rE ?_))
   try dsimp only [w0,w1,w2,w3]
   exact ih h
  ·cases h
   exact q_cond_f rfl (.tmp rfl) (decide_eq_false hc1) (q_exit rfl rfl (q_end at_.at_ rfl (res0 rfl) ⟨rfl,rfl⟩))
def f (k : Nat) (x0 : Sl) (S : HS) : Option ((Unit) × HS) :=
 L0 k k x0 0 (w64 ((Sl.len x0 : Int) - 1)) S
theorem snd {x0 : Sl} {S : HS}  {p : (Unit) × HS} (h : f k x0 S = some p) : HCall Tryz.prog base W0 β0 136 [(Sl.hv x0)] S (fun v S1 => v = (.tup []) ∧ S1 = p.2) := by
 unfold f at h
 refine HCall.of_run at_.at_ body ?_
 show HR base W0 β0 136 none [.code c0] ⟨[(Sl.hv x0),τ,τ,τ,τ,τ,τ,τ,τ,τ,τ,τ,τ,τ,τ,τ,τ,τ,τ,τ,τ,τ,τ,τ,τ,τ,τ,τ],[]⟩ S _
 refine qQ rfl (qR rfl rfl (qS 4 rfl (oM · rfl) (qS 5 rfl (ok_len_sl (q := Sl.a x0) (n := Sl.len x0) (z := Sl.cap x0) · rfl tu87 (.tmp rfl)) (qS 6 rfl (oC · rfl rfl) (qS 2 rfl (ok_assign · (.int _ _)) ?_)))))
 try dsimp only [w0,w1,w2,w3]
 refine qS 3 rfl (oA · rfl) (rE ?_)
 try dsimp only [w0,w1,w2,w3]
 refine q_block rfl (q_loop rfl ?_)
 try dsimp only [w0,w1,w2,w3]
 exact L0_snd  h
end slices_Reverse_api_Member_api_Member
namespace slices_rotateLeft_api_Member
theorem at_ : FnAt Tryz.prog 128 Tryz.f128 := ⟨Tryz.func128,by kernel_rfl⟩
def d0 := (Tryz.f128.body).getD .skip
def r1 := kR (kA d0)
def r3 := kR (kA (kB d0))
def r4 := kR (kB (kB d0))
def c0 : Code := .seq (.region 0 r1 false) (.seq (.region 1 r3 false) (.region 2 r4 false))
theorem body : Tryz.f128.body = some c0 := by kernel_rfl
def f (k : Nat) (x0 : Sl) (x1 : Int) (S : HS) : Option ((Unit) × HS) :=
 ((S.cut x0 0 x1 3).bind fun p1 =>
 ((slices_Reverse_api_Member_api_Member.f k p1 S).bind fun p2 =>
 ((p2.2.cut x0 x1 (Sl.len x0 : Int) 3).bind fun p3 =>
 ((slices_Reverse_api_Member_api_Member.f k p3 p2.2).bind fun p4 =>
 ((slices_Reverse_api_Member_api_Member.f k x0 p4.2).bind fun p5 =>
 some ((),p5.2))))))
theorem snd {x0 : Sl} {x1 : Int} {S : HS}  {p : (Unit) × HS} (h : f k x0 x1 S = some p) : HCall Tryz.prog base W0 β0 128 [(Sl.hv x0),(.int .i64 x1)] S (fun v S1 => v = (.tup []) ∧ S1 = p.2) := by
 unfold f at h
 refine HCall.of_run at_.at_ body ?_
 show HR base W0 β0 128 none [.code c0] ⟨[(Sl.hv x0),(.int .i64 x1),τ,τ,τ,τ,τ,τ,τ,τ,τ,τ,τ,τ],[]⟩ S _
 obtain ⟨p1,hp1,h⟩ := bindo h
 obtain ⟨p2,hp2,h⟩ := bindo h
 refine qQ rfl (qR rfl rfl (qS 4 rfl (oM · rfl) (qS 5 rfl (oM · rfl) (qS 6 rfl (ok_slice (kl := .i64) (kh := .i64) (s := x0) (l := 0) (h := x1) · tu87 si62 (.tmp rfl) (.inl ⟨rfl,rfl⟩) (.inr ⟨_,rfl,(.tmp rfl)⟩) hp1) (q_call (dst := some 7) rfl (.func _) (.cons (.tmp rfl) Evs.nil) (HInv.static slices_Reverse_api_Member_api_Member.at_ slices_Reverse_api_Member_api_Member.body (slices_Reverse_api_Member_api_Member.snd  hp2)) ?_)))))
 rintro _ _ ⟨rfl,rfl⟩
 refine rE ?_
 try dsimp only [w0,w1,w2,w3]
 obtain ⟨p3,hp3,h⟩ := bindo h
 obtain ⟨p4,hp4,h⟩ := bindo h
 refine qQ rfl (qR rfl rfl (qS 8 rfl (oM · rfl) (qS 9 rfl (oM · rfl) (qS 10 rfl (ok_slice (kl := .i64) (kh := .i64) (s := x0) (l := x1) (h := (Sl.len x0 : Int)) · tu87 si62 (.tmp rfl) (.inr ⟨_,rfl,(.tmp rfl)⟩) (.inl ⟨rfl,rfl⟩) hp3) (q_call (dst := some 11) rfl (.func _) (.cons (.tmp rfl) Evs.nil) (HInv.static slices_Reverse_api_Member_api_Member.at_ slices_Reverse_api_Member_api_Member.body (slices_Reverse_api_Member_api_Member.snd  hp4)) ?_)))))
 rintro _ _ ⟨rfl,rfl⟩
 refine rE ?_
 try dsimp only [w0,w1,w2,w3]
 obtain ⟨p5,hp5,h⟩ := bindo h
 refine qR rfl rfl (qS 12 rfl (oM · rfl) (q_call (dst := some 13) rfl (.func _) (.cons (.tmp rfl) Evs.nil) (HInv.static slices_Reverse_api_Member_api_Member.at_ slices_Reverse_api_Member_api_Member.body (slices_Reverse_api_Member_api_Member.snd  hp5)) ?_))
 rintro _ _ ⟨rfl,rfl⟩
 refine rE ?_
 try dsimp only [w0,w1,w2,w3]
 cases h
 exact q_end at_.at_ rfl (res0 rfl) ⟨rfl,rfl⟩
end slices_rotateLeft_api_Member
namespace slices_rotateRight_api_Member
theorem at_ : FnAt Tryz.prog 111 Tryz.f111 := ⟨Tryz.func111,by kernel_rfl⟩
def d0 := (Tryz.f111.body).getD .skip
def r0 := kR d0
def c0 : Code := .region 0 r0 false
theorem body : Tryz.f111.body = some c0 := by kernel_rfl
def f (k : Nat) (x0 : Sl) (x1 : Int) (S : HS) : Option ((Unit) × HS) :=
 ((slices_rotateLeft_api_Member.f k x0 (w64 ((Sl.len x0 : Int) - x1)) S).bind fun p1 =>
 some ((),p1.2))
theorem snd {x0 : Sl} {x1 : Int} {S : HS}  {p : (Unit) × HS} (h : f k x0 x1 S = some p) : HCall Tryz.prog base W0 β0 111 [(Sl.hv x0),(.int .i64 x1)] S (fun v S1 => v = (.tup []) ∧ S1 = p.2) := by
 unfold f at h
 refine HCall.of_run at_.at_ body ?_
 show HR base W0 β0 111 none [.code c0] ⟨[(Sl.hv x0),(.int .i64 x1),τ,τ,τ,τ,τ,τ,τ,τ],[]⟩ S _
 refine qR rfl rfl (qS 4 rfl (oM · rfl) (qS 5 rfl (oM · rfl) (qS 6 rfl (ok_len_sl (q := Sl.a x0) (n := Sl.len x0) (z := Sl.cap x0) · rfl tu87 (.tmp rfl)) (qS 7 rfl (oM · rfl) ?_))))
 try dsimp only [w0,w1,w2,w3]
 obtain ⟨p1,hp1,h⟩ := bindo h
 refine qS 8 rfl (oB · rfl rfl rfl) (q_call (dst := some 9) rfl (.func _) (.cons (.tmp rfl) (.cons (.tmp rfl) Evs.nil)) (HInv.static slices_rotateLeft_api_Member.at_ slices_rotateLeft_api_Member.body (slices_rotateLeft_api_Member.snd  hp1)) ?_)
 rintro _ _ ⟨rfl,rfl⟩
 refine rE ?_
 try dsimp only [w0,w1,w2,w3]
 cases h
 exact q_end at_.at_ rfl (res0 rfl) ⟨rfl,rfl⟩
end slices_rotateRight_api_Member
namespace slices_Insert_api_Member_api_Member
theorem at_ : FnAt Tryz.prog 78 Tryz.f78 := ⟨Tryz.func78,by kernel_rfl⟩
def d0 := (Tryz.f78.body).getD .skip
def r1 := kR (kA d0)
def r3 := kR (kA (kB d0))
def r5 := kR (kA (kB (kB d0)))
def d6 := kB (kB (kB d0))
def r8 := kR (kA (kA d6))
def r11 := kR (kA (kA (kB (kA d6))))
def r15 := kR (kA (kB d6))
def r18 := kR (kA (kA (kB (kB d6))))
def r21 := kR (kA (kA (kB (kA (kB (kB d6))))))
def d24 := kB (kB (kB d6))
def r26 := kR (kA (kA d24))
def d28 := kA (kB (kA d24))
def r29 := kR (kA d28)
def r31 := kR (kA (kB d28))
def r33 := kR (kA (kB (kB d28)))
def r35 := kR (kA (kB (kB (kB d28))))
def r39 := kR (kA (kB d24))
def d41 := kA (kB (kB d24))
def r42 := kR (kA d41)
def r45 := kR (kA (kA (kB d41)))
def r47 := kR (kA (kB (kA (kB d41))))
def r49 := kR (kA (kB (kB (kA (kB d41)))))
def r53 := kR (kA (kB (kB (kB d24))))
def r55 := kR (kA (kB (kB (kB (kB d24)))))
def r57 := kR (kA (kB (kB (kB (kB (kB d24))))))
def c0 : Code := .seq (.region 0 r1 false) (.seq (.region 1 r3 false) (.seq (.region 2 r5 false) (.seq (.seq (.region 3 r8 false) (.cond (.tmp 16) (.seq (.region 4 r11 false) .ret) .skip)) (.seq (.region 5 r15 false) (.seq (.seq (.region 6 r18 false) (.cond (.tmp 22) (.seq (.region 7 r21 false) .ret) .skip)) (.seq (.seq (.region 8 r26 false) (.cond (.tmp 31) (.seq (.region 9 r29 false) (.seq (.region 10 r31 false) (.seq (.region 11 r33 true) (.seq (.region 12 r35 false) .ret)))) .skip)) (.seq (.region 13 r39 false) (.seq (.seq (.region 14 r42 false) (.cond (.tmp 68) (.seq (.region 15 r45 true) (.seq (.region 16 r47 false) (.seq (.region 17 r49 false) .ret))) .skip)) (.seq (.region 18 r53 false) (.seq (.region 19 r55 false) (.seq (.region 20 r57 false) .ret)))))))))))
theorem body : Tryz.f78.body = some c0 := by kernel_rfl
def f (k : Nat) (x0 : Sl) (x1 : Int) (x2 : Sl) (S : HS) : Option ((Sl) × HS) :=
 ((S.cut x0 x1 (Sl.len x0 : Int) 3).bind fun p1 =>
 (if (Sl.len x2 : Int) = 0 then
 some (x0,S) else
 (if x1 = (Sl.len x0 : Int) then
 ((S.rows x2 3).bind fun p4 =>
 ((S.app x0 p4 3).bind fun p5 =>
 some ((p5.1),(p5.2)))) else
 ((Sl.capOf x0).bind fun p6 =>
 (if (w64 ((Sl.len x0 : Int) + (Sl.len x2 : Int))) > p6 then
 ((S.cut x0 0 x1 3).bind fun p8 =>
 ((S.appZ p8 (w64 ((w64 ((Sl.len x0 : Int) + (Sl.len x2 : Int))) - x1)) [(.int .i64 0),(.bool false),(.bool false)] 3).bind fun p9 =>
 ((p9.2.cut (p9.1) x1 (Sl.len (p9.1) : Int) 3).bind fun p10 =>
 ((p9.2.rows x2 3).bind fun p11 =>
 ((p9.2.over p10 (List.take (Sl.len p10) p11) 3).bind fun p12 =>
 ((p12.cut (p9.1) (w64 (x1 + (Sl.len x2 : Int))) (Sl.len (p9.1) : Int) 3).bind fun p13 =>
 ((p12.cut x0 x1 (Sl.len x0 : Int) 3).bind fun p14 =>
 ((p12.rows p14 3).bind fun p15 =>
 ((p12.over p13 (List.take (Sl.len p13) p15) 3).bind fun p16 =>
 some ((p9.1),p16)))))))))) else
 ((S.cut x0 0 (w64 ((Sl.len x0 : Int) + (Sl.len x2 : Int))) 3).bind fun p17 =>
 ((S.cut p17 (w64 (x1 + (Sl.len x2 : Int))) (Sl.len p17 : Int) 3).bind fun p18 =>
 ((S.ovl x2 p18).bind fun p19 =>
 (if (!p19) = true then
 ((S.cut p17 (w64 (x1 + (Sl.len x2 : Int))) (Sl.len p17 : Int) 3).bind fun p21 =>
 ((S.cut p17 x1 (Sl.len p17 : Int) 3).bind fun p22 =>
 ((S.rows p22 3).bind fun p23 =>
 ((S.over p21 (List.take (Sl.len p21) p23) 3).bind fun p24 =>
 ((p24.cut p17 x1 (Sl.len p17 : Int) 3).bind fun p25 =>
 ((p24.rows x2 3).bind fun p26 =>
 ((p24.over p25 (List.take (Sl.len p25) p26) 3).bind fun p27 =>
 some (p17,p27)))))))) else
 ((S.cut p17 (Sl.len x0 : Int) (Sl.len p17 : Int) 3).bind fun p28 =>
 ((S.rows x2 3).bind fun p29 =>
 ((S.over p28 (List.take (Sl.len p28) p29) 3).bind fun p30 =>
 ((p30.cut p17 x1 (Sl.len p17 : Int) 3).bind fun p31 =>
 ((slices_rotateRight_api_Member.f k p31 (Sl.len x2 : Int) p30).bind fun p32 =>
 some (p17,p32.2)))))))))))))))
theorem snd {x0 : Sl} {x1 : Int} {x2 : Sl} {S : HS}  {p : (Sl) × HS} (h : f k x0 x1 x2 S = some p) : HCall Tryz.prog base W0 β0 78 [(Sl.hv x0),(.int .i64 x1),(Sl.hv x2)] S (fun v S1 => v = (Sl.hv p.1) ∧ S1 = p.2) := by
 unfold f at h
 refine HCall.of_run at_.at_ body ?_
 show HR base W0 β0 78 none [.code c0] ⟨[(Sl.hv x0),(.int .i64 x1),(Sl.hv x2),τ,τ,τ,τ,τ,τ,τ,τ,τ,τ,τ,τ,τ,τ,τ,τ,τ,τ,τ,τ,τ,τ,τ,τ,τ,τ,τ,τ,τ,τ,τ,τ,τ,τ,τ,τ,τ,τ,τ,τ,τ,τ,τ,τ,τ,τ,τ,τ,τ,τ,τ,τ,τ,τ,τ,τ,τ,τ,τ,τ,τ,τ,τ,τ,τ,τ,τ,τ,τ,τ,τ,τ,τ,τ,τ,τ,τ,τ,τ,τ,τ,τ,τ,τ,τ,τ,τ,τ,τ,τ,τ,τ],[]⟩ S _
 refine qQ rfl (qR rfl rfl (qS 6 rfl (ok_assign · (.const fun _ => .slNil none)) (rE ?_)))
 try dsimp only [w0,w1,w2,w3]
 obtain ⟨p1,hp1,h⟩ := bindo h
 refine qQ rfl (qR rfl rfl (qS 10 rfl (oM · rfl) (qS 11 rfl (oM · rfl) (qS 12 rfl (ok_slice (kl := .i64) (kh := .i64) (s := x0) (l := x1) (h := (Sl.len x0 : Int)) · tu87 si62 (.tmp rfl) (.inr ⟨_,rfl,(.tmp rfl)⟩) (.inl ⟨rfl,rfl⟩) hp1) (rE ?_)))))
 try dsimp only [w0,w1,w2,w3]
 refine qQ rfl (qR rfl rfl (qS 13 rfl (oM · rfl) (qS 14 rfl (ok_len_sl (q := Sl.a x2) (n := Sl.len x2) (z := Sl.cap x2) · rfl tu87 (.tmp rfl)) (qS 7 rfl (oA · rfl) (rE ?_)))))
 try dsimp only [w0,w1,w2,w3]
 refine qQ rfl (qQ rfl (qR rfl rfl (qS 15 rfl (oM · rfl) (qS 16 rfl (oC · rfl rfl) (rE ?_)))))
 try dsimp only [w0,w1,w2,w3]
 rcases ifc h with ⟨hc2,h⟩ | ⟨hc2,h⟩
 ·refine q_cond_t rfl (.tmp rfl) (decide_eq_true hc2) (qQ rfl (qR rfl rfl (qS 17 rfl (oM · rfl) (qS 6 rfl (oA · rfl) (rE ?_)))))
  cases h
  exact q_ret rfl at_.at_ rfl (res1 rfl rfl) ⟨rfl,rfl⟩
 ·refine q_cond_f rfl (.tmp rfl) (decide_eq_false hc2) (q_skipc rfl (qQ rfl (qR rfl rfl (qS 18 rfl (oM · rfl) (qS 19 rfl (ok_len_sl (q := Sl.a x0) (n := Sl.len x0) (z := Sl.cap x0) · rfl tu87 (.tmp rfl)) (qS 8 rfl (oA · rfl) (rE ?_)))))))
  try dsimp only [w0,w1,w2,w3]
  refine qQ rfl (qQ rfl (qR rfl rfl (qS 20 rfl (oM · rfl) (qS 21 rfl (oM · rfl) (qS 22 rfl (oB · rfl rfl rfl) (rE ?_))))))
  try dsimp only [w0,w1,w2,w3]
  rcases ifc h with ⟨hc3,h⟩ | ⟨hc3,h⟩
  ·obtain ⟨p4,hp4,h⟩ := bindo h
   obtain ⟨p5,hp5,h⟩ := bindo h
   refine q_cond_t rfl (.tmp rfl) (decide_eq_true hc3) (qQ rfl (qR rfl rfl (qS 23 rfl (oM · rfl) (qS 24 rfl (oM · rfl) (qS 25 rfl (ok_append (s := x0) (s1 := x2) el87 · rfl rfl ⟨_,tu87⟩ (.tmp rfl) (.tmp rfl) hp4 hp5) (qS 6 rfl (oA · rfl) (rE ?_)))))))
   cases h
   exact q_ret rfl at_.at_ rfl (res1 rfl rfl) ⟨rfl,rfl⟩
  ·refine q_cond_f rfl (.tmp rfl) (decide_eq_false hc3) (q_skipc rfl (qQ rfl (qQ rfl (qR rfl rfl (qS 26 rfl (oM · rfl) (qS 27 rfl (oM · rfl) (qS 28 rfl (oB · rfl rfl rfl) (qS 29 rfl (oM · rfl) ?_))))))))
   try dsimp only [w0,w1,w2,w3]
   obtain ⟨p6,hp6,h⟩ := bindo h
   refine qS 30 rfl (ok_cap (s := x0) · rfl tu87 (.tmp rfl) hp6) (qS 31 rfl (oB · rfl rfl rfl) (rE ?_))
   try dsimp only [w0,w1,w2,w3]
   rcases ifc h with ⟨hc7,h⟩ | ⟨hc7,h⟩
   ·obtain ⟨p8,hp8,h⟩ := bindo h
    refine q_cond_t rfl (.tmp rfl) (decide_eq_true hc7) (qQ rfl (qR rfl rfl (qS 32 rfl (oM · rfl) (qS 33 rfl (oM · rfl) (qS 34 rfl (ok_slice (kl := .i64) (kh := .i64) (s := x0) (l := 0) (h := x1) · tu87 si62 (.tmp rfl) (.inl ⟨rfl,rfl⟩) (.inr ⟨_,rfl,(.tmp rfl)⟩) hp8) (qS 35 rfl (oM · rfl) ?_))))))
    try dsimp only [w0,w1,w2,w3]
    refine qS 36 rfl (oM · rfl) (qS 37 rfl (oB · rfl rfl rfl) (qS 38 rfl (oM · rfl) (qS 39 rfl (oB · rfl rfl rfl) ?_)))
    try dsimp only [w0,w1,w2,w3]
    obtain ⟨p9,hp9,h⟩ := bindo h
    refine qS 40 rfl (ok_append_zeros (s := p8) el87 · rfl rfl tu3 (.tmp rfl) (.tmp rfl) hp9) (qS 9 rfl (oA · rfl) (rE ?_))
    try dsimp only [w0,w1,w2,w3]
    obtain ⟨p10,hp10,h⟩ := bindo h
    refine qQ rfl (qR rfl rfl (qS 41 rfl (oM · rfl) (qS 42 rfl (oM · rfl) (qS 43 rfl (ok_slice (kl := .i64) (kh := .i64) (s := (p9.1)) (l := x1) (h := (Sl.len (p9.1) : Int)) · tu87 si62 (.tmp rfl) (.inr ⟨_,rfl,(.tmp rfl)⟩) (.inl ⟨rfl,rfl⟩) hp10) (qS 44 rfl (oM · rfl) ?_)))))
    try dsimp only [w0,w1,w2,w3]
    obtain ⟨p11,hp11,h⟩ := bindo h
    obtain ⟨p12,hp12,h⟩ := bindo h
    refine qS 45 rfl (ok_copy (s := p10) (s1 := x2) el87 · rfl (.tmp rfl) (.tmp rfl) hp11 hp12) (rE ?_)
    try dsimp only [w0,w1,w2,w3]
    refine qQ rfl ?_
    refine x_start (cls := [0,0,0,0,1,0,0,1,2]) (rk := [0,1,2,3,4,5,6,7,8]) rfl (by kernel_rfl) ?_
    refine yf 46 [9] rfl (oM · rfl) ?_
    refine yf 47 [1] rfl (oM · rfl) ?_
    refine yf 48 [7] rfl (oM · rfl) ?_
    refine yf 49 [47,48] rfl (oB · rfl rfl rfl) ?_
    try dsimp only [w0,w1,w2,w3]
    obtain ⟨p13,hp13,h⟩ := bindo h
    refine yr 50 [46,49] rfl (ok_slice (kl := .i64) (kh := .i64) (s := (p9.1)) (l := (w64 (x1 + (Sl.len x2 : Int)))) (h := (Sl.len (p9.1) : Int)) · tu87 si62 (.tmp rfl) (.inr ⟨_,rfl,(.tmp rfl)⟩) (.inl ⟨rfl,rfl⟩) hp13) ?_
    refine yf 51 [0] rfl (oM · rfl) ?_
    refine yf 52 [1] rfl (oM · rfl) ?_
    obtain ⟨p14,hp14,h⟩ := bindo h
    refine yr 53 [51,52] rfl (ok_slice (kl := .i64) (kh := .i64) (s := x0) (l := x1) (h := (Sl.len x0 : Int)) · tu87 si62 (.tmp rfl) (.inr ⟨_,rfl,(.tmp rfl)⟩) (.inl ⟨rfl,rfl⟩) hp14) ?_
    try dsimp only [w0,w1,w2,w3]
    obtain ⟨p15,hp15,h⟩ := bindo h
    obtain ⟨p16,hp16,h⟩ := bindo h
    refine ye 54 [50,53] rfl (ok_copy (s := p13) (s1 := p14) el87 · rfl (.tmp rfl) (.tmp rfl) hp15 hp16) ?_
    refine x_rest rfl ?_
    refine rE ?_
    try dsimp only [w0,w1,w2,w3]
    refine qQ rfl (qR rfl rfl (qS 55 rfl (oM · rfl) (qS 6 rfl (oA · rfl) (rE ?_))))
    cases h
    exact q_ret rfl at_.at_ rfl (res1 rfl rfl) ⟨rfl,rfl⟩
   ·refine q_cond_f rfl (.tmp rfl) (decide_eq_false hc7) (q_skipc rfl (qQ rfl (qR rfl rfl (qS 56 rfl (oM · rfl) (qS 57 rfl (oM · rfl) (qS 58 rfl (oM · rfl) (qS 59 rfl (oB · rfl rfl rfl) ?_)))))))
    try dsimp only [w0,w1,w2,w3]
    obtain ⟨p17,hp17,h⟩ := bindo h
    refine qS 60 rfl (ok_slice (kl := .i64) (kh := .i64) (s := x0) (l := 0) (h := (w64 ((Sl.len x0 : Int) + (Sl.len x2 : Int)))) · tu87 si62 (.tmp rfl) (.inl ⟨rfl,rfl⟩) (.inr ⟨_,rfl,(.tmp rfl)⟩) hp17) (qS 0 rfl (oA · rfl) (rE ?_))
    try dsimp only [w0,w1,w2,w3]
    refine qQ rfl (qQ rfl (qR rfl rfl (qS 61 rfl (oM · rfl) (qS 62 rfl (oM · rfl) (qS 63 rfl (oM · rfl) (qS 64 rfl (oM · rfl) ?_))))))
    try dsimp only [w0,w1,w2,w3]
    obtain ⟨p18,hp18,h⟩ := bindo h
    obtain ⟨p19,hp19,h⟩ := bindo h
    refine qS 65 rfl (oB · rfl rfl rfl) (qS 66 rfl (ok_slice (kl := .i64) (kh := .i64) (s := p17) (l := (w64 (x1 + (Sl.len x2 : Int)))) (h := (Sl.len p17 : Int)) · tu87 si62 (.tmp rfl) (.inr ⟨_,rfl,(.tmp rfl)⟩) (.inl ⟨rfl,rfl⟩) hp18) (qS 67 rfl (ok_overlaps (s1 := x2) (s2 := p18) · ext110 tu87 si62 (.tmp rfl) (.tmp rfl) hp19) (qS 68 rfl (ok_not · (.tmp rfl)) (rE ?_))))
    try dsimp only [w0,w1,w2,w3]
    rcases ifc h with ⟨hc20,h⟩ | ⟨hc20,h⟩
    ·refine q_cond_t rfl (.tmp rfl) hc20 (qQ rfl ?_)
     refine x_start (cls := [0,0,0,0,1,0,0,1,2]) (rk := [0,1,2,3,4,5,6,7,8]) rfl (by kernel_rfl) ?_
     refine yf 69 [0] rfl (oM · rfl) ?_
     refine yf 70 [1] rfl (oM · rfl) ?_
     refine yf 71 [7] rfl (oM · rfl) ?_
     refine yf 72 [70,71] rfl (oB · rfl rfl rfl) ?_
     try dsimp only [w0,w1,w2,w3]
     obtain ⟨p21,hp21,h⟩ := bindo h
     refine yr 73 [69,72] rfl (ok_slice (kl := .i64) (kh := .i64) (s := p17) (l := (w64 (x1 + (Sl.len x2 : Int)))) (h := (Sl.len p17 : Int)) · tu87 si62 (.tmp rfl) (.inr ⟨_,rfl,(.tmp rfl)⟩) (.inl ⟨rfl,rfl⟩) hp21) ?_
     refine yf 74 [0] rfl (oM · rfl) ?_
     refine yf 75 [1] rfl (oM · rfl) ?_
     obtain ⟨p22,hp22,h⟩ := bindo h
     refine yr 76 [74,75] rfl (ok_slice (kl := .i64) (kh := .i64) (s := p17) (l := x1) (h := (Sl.len p17 : Int)) · tu87 si62 (.tmp rfl) (.inr ⟨_,rfl,(.tmp rfl)⟩) (.inl ⟨rfl,rfl⟩) hp22) ?_
     try dsimp only [w0,w1,w2,w3]
     obtain ⟨p23,hp23,h⟩ := bindo h
     obtain ⟨p24,hp24,h⟩ := bindo h
     refine ye 77 [73,76] rfl (ok_copy (s := p21) (s1 := p22) el87 · rfl (.tmp rfl) (.tmp rfl) hp23 hp24) ?_
     refine x_rest rfl ?_
     refine rE ?_
     try dsimp only [w0,w1,w2,w3]
     obtain ⟨p25,hp25,h⟩ := bindo h
     refine qQ rfl (qR rfl rfl (qS 78 rfl (oM · rfl) (qS 79 rfl (oM · rfl) (qS 80 rfl (ok_slice (kl := .i64) (kh := .i64) (s := p17) (l := x1) (h := (Sl.len p17 : Int)) · tu87 si62 (.tmp rfl) (.inr ⟨_,rfl,(.tmp rfl)⟩) (.inl ⟨rfl,rfl⟩) hp25) (qS 81 rfl (oM · rfl) ?_)))))
     try dsimp only [w0,w1,w2,w3]
     obtain ⟨p26,hp26,h⟩ := bindo h
     obtain ⟨p27,hp27,h⟩ := bindo h
     refine qS 82 rfl (ok_copy (s := p25) (s1 := x2) el87 · rfl (.tmp rfl) (.tmp rfl) hp26 hp27) (rE ?_)
     try dsimp only [w0,w1,w2,w3]
     refine qQ rfl (qR rfl rfl (qS 83 rfl (oM · rfl) (qS 6 rfl (oA · rfl) (rE ?_))))
     cases h
     exact q_ret rfl at_.at_ rfl (res1 rfl rfl) ⟨rfl,rfl⟩
    ·obtain ⟨p28,hp28,h⟩ := bindo h
     refine q_cond_f rfl (.tmp rfl) (bfalse hc20) (q_skipc rfl (qQ rfl (qR rfl rfl (qS 84 rfl (oM · rfl) (qS 85 rfl (oM · rfl) (qS 86 rfl (ok_slice (kl := .i64) (kh := .i64) (s := p17) (l := (Sl.len x0 : Int)) (h := (Sl.len p17 : Int)) · tu87 si62 (.tmp rfl) (.inr ⟨_,rfl,(.tmp rfl)⟩) (.inl ⟨rfl,rfl⟩) hp28) (qS 87 rfl (oM · rfl) ?_)))))))
     try dsimp only [w0,w1,w2,w3]
     obtain ⟨p29,hp29,h⟩ := bindo h
     obtain ⟨p30,hp30,h⟩ := bindo h
     refine qS 88 rfl (ok_copy (s := p28) (s1 := x2) el87 · rfl (.tmp rfl) (.tmp rfl) hp29 hp30) (rE ?_)
     try dsimp only [w0,w1,w2,w3]
     obtain ⟨p31,hp31,h⟩ := bindo h
     refine qQ rfl (qR rfl rfl (qS 89 rfl (oM · rfl) (qS 90 rfl (oM · rfl) (qS 91 rfl (ok_slice (kl := .i64) (kh := .i64) (s := p17) (l := x1) (h := (Sl.len p17 : Int)) · tu87 si62 (.tmp rfl) (.inr ⟨_,rfl,(.tmp rfl)⟩) (.inl ⟨rfl,rfl⟩) hp31) (qS 92 rfl (oM · rfl) ?_)))))
     try dsimp only [w0,w1,w2,w3]
     obtain ⟨p32,hp32,h⟩ := bindo h
     refine q_call (dst := some 93) rfl (.func _) (.cons (.tmp rfl) (.cons (.tmp rfl) Evs.nil)) (HInv.static slices_rotateRight_api_Member.at_ slices_rotateRight_api_Member.body (slices_rotateRight_api_Member.snd  hp32)) ?_
     rintro _ _ ⟨rfl,rfl⟩
     refine rE ?_
     try dsimp only [w0,w1,w2,w3]
     refine qQ rfl (qR rfl rfl (qS 94 rfl (oM · rfl) (qS 6 rfl (oA · rfl) (rE ?_))))
     cases h
     exact q_ret rfl at_.at_ rfl (res1 rfl rfl) ⟨rfl,rfl⟩
end slices_Insert_api_Member_api_Member
namespace slices_Insert_api_Member_api_Member_w
theorem at_ : FnAt Tryz.prog 78 Tryz.f78 := slices_Insert_api_Member_api_Member.at_
theorem body : Tryz.f78.body = some slices_Insert_api_Member_api_Member.c0 := slices_Insert_api_Member_api_Member.body
def f (x0 : Sl) (x1 : Int) (x2 : Sl) (S : HS) : Option ((Sl) × HS) := HS.ins S x0 x1 x2 3
theorem snd {base : Nat} {W0 : World} {β0 : Bt} {x0 : Sl} {x1 : Int} {x2 : Sl} {S : HS} {p : (Sl) × HS} (h : f x0 x1 x2 S = some p) : HCall Tryz.prog base W0 β0 78 [(Sl.hv x0),(.int .i64 x1),(Sl.hv x2)] S (fun v S1 => v = (Sl.hv p.1) ∧ S1 = p.2) :=
 ins_snd (rot := fun a b T => slices_rotateRight_api_Member.f 0 a b T) (zr := [(.int .i64 0),(.bool false),(.bool false)]) (fun _ _ _ h => slices_Insert_api_Member_api_Member.snd (k := 0) h) h
end slices_Insert_api_Member_api_Member_w
namespace slices_Delete_int_int
theorem at_ : FnAt Tryz.prog 112 Tryz.f112 := ⟨Tryz.func112,by kernel_rfl⟩
def d0 := (Tryz.f112.body).getD .skip
def r1 := kR (kA d0)
def r3 := kR (kA (kB d0))
def r6 := kR (kA (kA (kB (kB d0))))
def r9 := kR (kA (kA (kB (kA (kB (kB d0))))))
def d12 := kB (kB (kB d0))
def r13 := kR (kA d12)
def r15 := kR (kA (kB d12))
def r17 := kR (kA (kB (kB d12)))
def r19 := kR (kA (kB (kB (kB d12))))
def c0 : Code := .seq (.region 0 r1 false) (.seq (.region 1 r3 false) (.seq (.seq (.region 2 r6 false) (.cond (.tmp 16) (.seq (.region 3 r9 false) .ret) .skip)) (.seq (.region 4 r13 false) (.seq (.region 5 r15 true) (.seq (.region 6 r17 false) (.seq (.region 7 r19 false) .ret))))))
theorem body : Tryz.f112.body = some c0 := by kernel_rfl
def f (x0 : Sl) (x1 : Int) (x2 : Int) (S : HS) : Option ((Sl) × HS) :=
 ((S.cut3 x0 x1 x2 (Sl.len x0 : Int) 1).bind fun p1 =>
 (if x1 = x2 then
 some (x0,S) else
 ((S.cut x0 0 x1 1).bind fun p3 =>
 ((S.cut x0 x2 (Sl.len x0 : Int) 1).bind fun p4 =>
 ((S.rows p4 1).bind fun p5 =>
 ((S.app p3 p5 1).bind fun p6 =>
 ((p6.2.cut (p6.1) (Sl.len (p6.1) : Int) (Sl.len x0 : Int) 1).bind fun p7 =>
 ((p6.2.over p7 (List.replicate (Sl.len p7) [(.int .i64 0)]) 1).bind fun p8 =>
 some ((p6.1),p8)))))))))
theorem snd {x0 : Sl} {x1 : Int} {x2 : Int} {S : HS}  {p : (Sl) × HS} (h : f x0 x1 x2 S = some p) : HCall Tryz.prog base W0 β0 112 [(Sl.hv x0),(.int .i64 x1),(.int .i64 x2)] S (fun v S1 => v = (Sl.hv p.1) ∧ S1 = p.2) := by
 unfold f at h
 refine HCall.of_run at_.at_ body ?_
 show HR base W0 β0 112 none [.code c0] ⟨[(Sl.hv x0),(.int .i64 x1),(.int .i64 x2),τ,τ,τ,τ,τ,τ,τ,τ,τ,τ,τ,τ,τ,τ,τ,τ,τ,τ,τ,τ,τ,τ,τ,τ,τ,τ,τ,τ,τ,τ],[]⟩ S _
 refine qQ rfl (qR rfl rfl (qS 6 rfl (ok_assign · (.const fun _ => .slNil none)) (rE ?_)))
 try dsimp only [w0,w1,w2,w3]
 refine qQ rfl (qR rfl rfl (qS 8 rfl (oM · rfl) (qS 9 rfl (oM · rfl) (qS 10 rfl (oM · rfl) (qS 11 rfl (oM · rfl) ?_)))))
 try dsimp only [w0,w1,w2,w3]
 obtain ⟨p1,hp1,h⟩ := bindo h
 refine qS 12 rfl (ok_len_sl (q := Sl.a x0) (n := Sl.len x0) (z := Sl.cap x0) · rfl tu42 (.tmp rfl)) (qS 13 rfl (ok_slice3 (kl := .i64) (kh := .i64) (s := x0) (l := x1) (h := x2) · tu42 si3 (.tmp rfl) (.inr ⟨_,rfl,(.tmp rfl)⟩) (.inr ⟨_,rfl,(.tmp rfl)⟩) (.tmp rfl) hp1) (rE ?_))
 try dsimp only [w0,w1,w2,w3]
 refine qQ rfl (qQ rfl (qR rfl rfl (qS 14 rfl (oM · rfl) (qS 15 rfl (oM · rfl) (qS 16 rfl (oB · rfl rfl rfl) (rE ?_))))))
 try dsimp only [w0,w1,w2,w3]
 rcases ifc h with ⟨hc2,h⟩ | ⟨hc2,h⟩
 ·refine q_cond_t rfl (.tmp rfl) (decide_eq_true hc2) (qQ rfl (qR rfl rfl (qS 17 rfl (oM · rfl) (qS 6 rfl (oA · rfl) (rE ?_)))))
  cases h
  exact q_ret rfl at_.at_ rfl (res1 rfl rfl) ⟨rfl,rfl⟩
 ·refine q_cond_f rfl (.tmp rfl) (decide_eq_false hc2) (q_skipc rfl (qQ rfl (qR rfl rfl (qS 18 rfl (oM · rfl) (qS 19 rfl (ok_len_sl (q := Sl.a x0) (n := Sl.len x0) (z := Sl.cap x0) · rfl tu42 (.tmp rfl)) (qS 7 rfl (oA · rfl) (rE ?_)))))))
  try dsimp only [w0,w1,w2,w3]
  refine qQ rfl ?_
  refine x_start (cls := [0,0,1,0,0,1,2,0]) (rk := [0,1,2,3,4,5,6,7]) rfl (by kernel_rfl) ?_
  refine yf 20 [0] rfl (oM · rfl) ?_
  refine yf 21 [1] rfl (oM · rfl) ?_
  obtain ⟨p3,hp3,h⟩ := bindo h
  refine yr 22 [20,21] rfl (ok_slice (kl := .i64) (kh := .i64) (s := x0) (l := 0) (h := x1) · tu42 si3 (.tmp rfl) (.inl ⟨rfl,rfl⟩) (.inr ⟨_,rfl,(.tmp rfl)⟩) hp3) ?_
  refine yf 23 [0] rfl (oM · rfl) ?_
  try dsimp only [w0,w1,w2,w3]
  refine yf 24 [2] rfl (oM · rfl) ?_
  obtain ⟨p4,hp4,h⟩ := bindo h
  refine yr 25 [23,24] rfl (ok_slice (kl := .i64) (kh := .i64) (s := x0) (l := x2) (h := (Sl.len x0 : Int)) · tu42 si3 (.tmp rfl) (.inr ⟨_,rfl,(.tmp rfl)⟩) (.inl ⟨rfl,rfl⟩) hp4) ?_
  obtain ⟨p5,hp5,h⟩ := bindo h
  obtain ⟨p6,hp6,h⟩ := bindo h
  refine ye 26 [22,25] rfl (ok_append (s := p3) (s1 := p4) el42 · rfl rfl ⟨_,tu42⟩ (.tmp rfl) (.tmp rfl) hp5 hp6) ?_
  refine yf 0 [26] rfl (oA · rfl) ?_
  refine x_rest rfl ?_
  refine rE ?_
  try dsimp only [w0,w1,w2,w3]
  refine qQ rfl (qR rfl rfl (qS 27 rfl (oM · rfl) (qS 28 rfl (oM · rfl) (qS 29 rfl (ok_len_sl (q := Sl.a (p6.1)) (n := Sl.len (p6.1)) (z := Sl.cap (p6.1)) · rfl tu42 (.tmp rfl)) (qS 30 rfl (oM · rfl) ?_)))))
  try dsimp only [w0,w1,w2,w3]
  obtain ⟨p7,hp7,h⟩ := bindo h
  obtain ⟨p8,hp8,h⟩ := bindo h
  refine qS 31 rfl (ok_slice (kl := .i64) (kh := .i64) (s := (p6.1)) (l := (Sl.len (p6.1) : Int)) (h := (Sl.len x0 : Int)) · tu42 si3 (.tmp rfl) (.inr ⟨_,rfl,(.tmp rfl)⟩) (.inr ⟨_,rfl,(.tmp rfl)⟩) hp7) (qN rfl (ok_clear (s := p7) el42 · rfl (.tmp rfl) hp8) (rE ?_))
  try dsimp only [w0,w1,w2,w3]
  refine qQ rfl (qR rfl rfl (qS 32 rfl (oM · rfl) (qS 6 rfl (oA · rfl) (rE ?_))))
  cases h
  exact q_ret rfl at_.at_ rfl (res1 rfl rfl) ⟨rfl,rfl⟩
end slices_Delete_int_int
namespace slices_Delete_int_int_w
theorem at_ : FnAt Tryz.prog 112 Tryz.f112 := slices_Delete_int_int.at_
theorem body : Tryz.f112.body = some slices_Delete_int_int.c0 := slices_Delete_int_int.body
def f (x0 : Sl) (x1 : Int) (x2 : Int) (S : HS) : Option ((Sl) × HS) := HS.del S x0 x1 x2 1
theorem snd {base : Nat} {W0 : World} {β0 : Bt} {x0 : Sl} {x1 x2 : Int} {S : HS} {p : (Sl) × HS} (h : f x0 x1 x2 S = some p) : HCall Tryz.prog base W0 β0 112 [(Sl.hv x0),(.int .i64 x1),(.int .i64 x2)] S (fun v S1 => v = (Sl.hv p.1) ∧ S1 = p.2) :=
 del_snd (zr := [(.int .i64 0)]) (fun _ _ _ h => slices_Delete_int_int.snd h) h
end slices_Delete_int_int_w
namespace set_Set_int_Remove
theorem at_ : FnAt Tryz.prog 79 Tryz.f79 := ⟨Tryz.func79,by kernel_rfl⟩
def d0 := (Tryz.f79.body).getD .skip
def r1 := kR (kA d0)
def r3 := kR (kA (kB d0))
def r6 := kR (kA (kA (kB (kB d0))))
def r9 := kR (kA (kA (kB (kA (kB (kB d0))))))
def d12 := kB (kB (kB d0))
def r14 := kR (kA (kA d12))
def d16 := kA (kB (kA d12))
def r18 := kR (kA (kA d16))
def d23 := kB (kB (kA d16))
def r26 := kR (kA (kA (kA d23)))
def d27 := kB (kA (kA d23))
def r28 := kR (kA d27)
def r30 := kR (kA (kB d27))
def r33 := kR (kA (kA (kB (kB d27))))
def r34 := kR (kB (kA (kB (kB d27))))
def r36 := kR (kB d23)
def r38 := kR (kA (kB d12))
def c37 : Code := .seq (.region 12 r38 false) .ret
def c36 : Code := .region 11 r36 false
def c17 : Code := .seq (.region 5 r18 false) (.seq (.cond (.tmp 15) .skip (.exit 0)) (.seq (.block 1 (.seq (.region 6 r26 false) (.seq (.region 7 r28 false) (.seq (.region 8 r30 false) (.cond (.tmp 27) (.seq (.region 9 r33 false) (.region 10 r34 false)) .skip))))) c36))
def c0 : Code := .seq (.region 0 r1 false) (.seq (.region 1 r3 false) (.seq (.seq (.region 2 r6 false) (.cond (.tmp 11) (.seq (.region 3 r9 false) .ret) .skip)) (.seq (.seq (.region 4 r14 false) (.block 0 (.loop c17))) c37)))
theorem body : Tryz.f79.body = some c0 := by kernel_rfl
def J1 (k : Nat) (rec0 : HP → Int → Sl → Int → Int → HS → Option ((Int) × HS)) (y0 : HP) (y5 : Int) (y12 : Sl) (y13 : Int) (y14 : Int) (S : HS) : Option ((Int) × HS) :=
 rec0 y0 y5 y12 y13 (w64 (y14 + 1)) S
theorem J1_snd {rec0 : HP → Int → Sl → Int → Int → HS → Option ((Int) × HS)} (hrec0 : ∀ ⦃y0 : HP⦄ ⦃y5 : Int⦄ ⦃y12 : Sl⦄ ⦃y13 : Int⦄ ⦃y14 : Int⦄ ⦃S : HS⦄ ⦃p : (Int) × HS⦄ ⦃Gb Gc Gd Ge Gg Gh Gi Gj Gk Gl Gp Gq Gr Gs Gt Gu Gv Gw Gx Gy Gz Ka Kb Kc Kd Ke Kf Kg Kh Ki Kj Kk Kl Km Kn Ko Kp Kq : HV⦄,rec0 y0 y5 y12 y13 y14 S = some p → HR base W0 β0 79 none [.inLoop c17,.inBlock 0,.code c37] ⟨[(.ptr y0),Gb,Gc,Gd,Ge,(.int .i64 y5),Gg,Gh,Gi,Gj,Gk,Gl,(Sl.hv y12),(.int .i64 y13),(.int .i64 y14),Gp,Gq,Gr,Gs,Gt,Gu,Gv,Gw,Gx,Gy,Gz,Ka,Kb,Kc,Kd,Ke,Kf,Kg,Kh,Ki,Kj,Kk,Kl,Km,Kn,Ko,Kp,Kq],[]⟩ S (fun v S1 => v = (.int .i64 p.1) ∧ S1 = p.2)) {y0 : HP} {y5 : Int} {y12 : Sl} {y13 : Int} {y14 : Int} {S : HS} {p : (Int) × HS} (h : J1 k rec0 y0 y5 y12 y13 y14 S = some p) : HR base W0 β0 79 none [.code c36,.inLoop c17,.inBlock 0,.code c37] ⟨[(.ptr y0),Gb,Gc,Gd,Ge,(.int .i64 y5),Gg,Gh,Gi,Gj,Gk,Gl,(Sl.hv y12),(.int .i64 y13),(.int .i64 y14),Gp,Gq,Gr,Gs,Gt,Gu,Gv,Gw,Gx,Gy,Gz,Ka,Kb,Kc,Kd,Ke,Kf,Kg,Kh,Ki,Kj,Kk,Kl,Km,Kn,Ko,Kp,Kq],[]⟩ S (fun v S1 => v = (.int .i64 p.1) ∧ S1 = p.2) := by
 unfold J1 at h
 refine qR rfl rfl (qS 41 rfl (oC · rfl rfl) (qS 14 rfl (oM · rfl) (rE ?_)))
 try dsimp only [w0,w1,w2,w3]
 exact hrec0 h
def L0 (k : Nat) : Nat → HP → Int → Sl → Int → Int → HS → Option ((Int) × HS)
 | 0,_,_,_,_,_,_ => none
 | n + 1,y0,y5,y12,y13,y14,S =>
  (if y14 < y13 then
  ((S.idx y12 y14 1).bind fun p3 =>
  ((S.ldI .i64 p3).bind fun p4 =>
  (y0.bind fun p5 =>
  ((S.ldSl (HA.fld p5 0)).bind fun p6 =>
  ((slices_BinarySearch_int_int.f k p6 p4 S).bind fun p7 =>
  (if p7.1.2 = true then
  (y0.bind fun p9 =>
  ((p7.2.ldSl (HA.fld p9 0)).bind fun p10 =>
  ((slices_Delete_int_int_w.f p10 p7.1.1 (w64 (p7.1.1 + 1)) p7.2).bind fun p11 =>
  (y0.bind fun p12 =>
  ((p11.2.sets (HA.fld p12 0) [(Sl.hv p11.1)]).bind fun p13 =>
  J1 k (L0 k n) y0 (w64 (y5 + 1)) y12 y13 y14 p13))))) else
  J1 k (L0 k n) y0 y5 y12 y13 y14 p7.2)))))) else
  some (y5,S))
theorem L0_snd  : ∀ {n : Nat} ⦃y0 : HP⦄ ⦃y5 : Int⦄ ⦃y12 : Sl⦄ ⦃y13 : Int⦄ ⦃y14 : Int⦄ ⦃S : HS⦄ ⦃p : (Int) × HS⦄ ⦃Gb Gc Gd Ge Gg Gh Gi Gj Gk Gl Gp Gq Gr Gs Gt Gu Gv Gw Gx Gy Gz Ka Kb Kc Kd Ke Kf Kg Kh Ki Kj Kk Kl Km Kn Ko Kp Kq : HV⦄,L0 k n y0 y5 y12 y13 y14 S = some p → HR base W0 β0 79 none [.inLoop c17,.inBlock 0,.code c37] ⟨[(.ptr y0),Gb,Gc,Gd,Ge,(.int .i64 y5),Gg,Gh,Gi,Gj,Gk,Gl,(Sl.hv y12),(.int .i64 y13),(.int .i64 y14),Gp,Gq,Gr,Gs,Gt,Gu,Gv,Gw,Gx,Gy,Gz,Ka,Kb,Kc,Kd,Ke,Kf,Kg,Kh,Ki,Kj,Kk,Kl,Km,Kn,Ko,Kp,Kq],[]⟩ S (fun v S1 => v = (.int .i64 p.1) ∧ S1 = p.2) := by
 intro n
 induction n with
 | zero => intro _ _ _ _ _ _ _ _ _ _ _ _ _ _ _ _ _ _ _ _ _ _ _ _ _ _ _ _ _ _ _ _ _ _ _ _ _ _ _ _ _ _ _ _ _ h; cases h
 | succ n ih =>
  intro y0 y5 y12 y13 y14 S p Gb Gc Gd Ge Gg Gh Gi Gj Gk Gl Gp Gq Gr Gs Gt Gu Gv Gw Gx Gy Gz Ka Kb Kc Kd Ke Kf Kg Kh Ki Kj Kk Kl Km Kn Ko Kp Kq h
  simp only [L0] at h
  refine hr_inLoop (qQ rfl (qR rfl rfl (qS 15 rfl (oB · rfl rfl rfl) (rE ?_))))
  try dsimp only [w0,w1,w2,w3]
  refine qQ rfl ?_
  rcases ifc h with ⟨hc2,h⟩ | ⟨hc2,h⟩
  ·obtain ⟨p3,hp3,h⟩ := bindo h
   obtain ⟨p4,hp4,h⟩ := bindo h
   refine q_cond_t rfl (.tmp rfl) (decide_eq_true hc2) (q_skipc rfl (qQ rfl (q_block rfl (qQ rfl (qR rfl rfl (qS 16 rfl (oX (s := y12) · tu42 sz3 rfl rfl hp3) (qS 17 rfl (oL · sc3 rfl rfl (ldI_out hp4)) (qS 7 rfl (oA · rfl) (rE ?_)))))))))
   try dsimp only [w0,w1,w2,w3]
   obtain ⟨p5,hp5,h⟩ := bindo h
   obtain ⟨p6,hp6,h⟩ := bindo h
   refine qQ rfl (qR rfl rfl (qS 19 rfl (oM · rfl) (qS 20 rfl (oN · rfl hp5) (qS 21 rfl (oF · fi138_0 (by decide) rfl rfl) (qS 22 rfl (oL · sc42 rfl rfl (ldSl_out hp6)) ?_)))))
   try dsimp only [w0,w1,w2,w3]
   obtain ⟨p7,hp7,h⟩ := bindo h
   refine qS 23 rfl (oM · rfl) (q_call (dst := some 24) rfl (.func _) (.cons (.tmp rfl) (.cons (.tmp rfl) Evs.nil)) (HInv.static slices_BinarySearch_int_int.at_ slices_BinarySearch_int_int.body (slices_BinarySearch_int_int.snd  hp7)) ?_)
   rintro _ _ ⟨rfl,rfl⟩
   refine qS 18 rfl (oM · rfl) (qS 25 rfl (ok_extract · (.tmp rfl) rfl) ?_)
   try dsimp only [w0,w1,w2,w3]
   refine qS 26 rfl (ok_extract · (.tmp rfl) rfl) (qS 8 rfl (oA · rfl) (qS 9 rfl (oA · rfl) (rE ?_)))
   try dsimp only [w0,w1,w2,w3]
   refine qQ rfl (qR rfl rfl (qS 27 rfl (oM · rfl) (rE ?_)))
   try dsimp only [w0,w1,w2,w3]
   rcases ifc h with ⟨hc8,h⟩ | ⟨hc8,h⟩
   ·obtain ⟨p9,hp9,h⟩ := bindo h
    refine q_cond_t rfl (.tmp rfl) hc8 (qQ rfl (qR rfl rfl (qS 28 rfl (oM · rfl) (qS 29 rfl (oM · rfl) (qS 30 rfl (oN · rfl hp9) (qS 31 rfl (oF · fi138_0 (by decide) rfl rfl) ?_))))))
    try dsimp only [w0,w1,w2,w3]
    obtain ⟨p10,hp10,h⟩ := bindo h
    refine qS 32 rfl (oL · sc42 rfl rfl (ldSl_out hp10)) (qS 33 rfl (oM · rfl) (qS 34 rfl (oM · rfl) (qS 35 rfl (oC · rfl rfl) ?_)))
    try dsimp only [w0,w1,w2,w3]
    obtain ⟨p11,hp11,h⟩ := bindo h
    refine q_call (dst := some 36) rfl (.func _) (.cons (.tmp rfl) (.cons (.tmp rfl) (.cons (.tmp rfl) Evs.nil))) (HInv.static slices_Delete_int_int_w.at_ slices_Delete_int_int_w.body (slices_Delete_int_int_w.snd  hp11)) ?_
    rintro _ _ ⟨rfl,rfl⟩
    obtain ⟨p12,hp12,h⟩ := bindo h
    obtain ⟨p13,hp13,h⟩ := bindo h
    refine qS 37 rfl (oN · rfl hp12) (qS 38 rfl (oF · fi138_0 (by decide) rfl rfl) (qN rfl (ok_store_s (v := (Sl.hv p11.1)) · sz42 (.tmp rfl) rfl (.tmp rfl) rfl hp13) (rE ?_)))
    try dsimp only [w0,w1,w2,w3]
    refine qR rfl rfl (qS 39 rfl (oM · rfl) (qS 40 rfl (oC · rfl rfl) (qS 5 rfl (oA · rfl) (rE ?_))))
    try dsimp only [w0,w1,w2,w3]
    refine hr_inBlock ?_
    try dsimp only [w0,w1,w2,w3]
    exact J1_snd ih h
   ·refine q_cond_f rfl (.tmp rfl) (bfalse hc8) (q_skipc rfl (hr_inBlock ?_))
    try dsimp only [w0,w1,w2,w3]
    exact J1_snd ih h
  ·refine q_cond_f rfl (.tmp rfl) (decide_eq_false hc2) (q_exit rfl rfl (qQ rfl (qR rfl rfl (qS 42 rfl (oM · rfl) (qS 4 rfl (oA · rfl) (rE ?_))))))
   cases h
   exact q_ret rfl at_.at_ rfl (res1 rfl rfl) ⟨rfl,rfl⟩
def f (k : Nat) (x0 : HP) (x1 : Sl) (S : HS) : Option ((Int) × HS) :=
 (if (Option.isNone x0) = true then
 some (0,S) else
 L0 k k x0 0 x1 (Sl.len x1 : Int) 0 S)
theorem snd {x0 : HP} {x1 : Sl} {S : HS}  {p : (Int) × HS} (h : f k x0 x1 S = some p) : HCall Tryz.prog base W0 β0 79 [(.ptr x0),(Sl.hv x1)] S (fun v S1 => v = (.int .i64 p.1) ∧ S1 = p.2) := by
 unfold f at h
 refine HCall.of_run at_.at_ body ?_
 show HR base W0 β0 79 none [.code c0] ⟨[(.ptr x0),(Sl.hv x1),τ,τ,τ,τ,τ,τ,τ,τ,τ,τ,τ,τ,τ,τ,τ,τ,τ,τ,τ,τ,τ,τ,τ,τ,τ,τ,τ,τ,τ,τ,τ,τ,τ,τ,τ,τ,τ,τ,τ,τ,τ],[]⟩ S _
 refine qQ rfl (qR rfl rfl (qS 4 rfl (ok_assign · (.int _ _)) (rE ?_)))
 try dsimp only [w0,w1,w2,w3]
 refine qQ rfl (qR rfl rfl (qS 5 rfl (ok_assign · (.int _ _)) (rE ?_)))
 try dsimp only [w0,w1,w2,w3]
 refine qQ rfl (qQ rfl (qR rfl rfl (qS 10 rfl (oM · rfl) (qS 11 rfl (ok_nil_ptr · tu96 (.tmp rfl) (.inl ⟨rfl,rfl⟩)) (rE ?_)))))
 try dsimp only [w0,w1,w2,w3]
 rcases ifc h with ⟨hc1,h⟩ | ⟨hc1,h⟩
 ·refine q_cond_t rfl (.tmp rfl) hc1 (qQ rfl (qR rfl rfl (qS 4 rfl (ok_assign · (.int _ _)) (rE ?_))))
  cases h
  exact q_ret rfl at_.at_ rfl (res1 rfl rfl) ⟨rfl,rfl⟩
 ·refine q_cond_f rfl (.tmp rfl) (bfalse hc1) (q_skipc rfl (qQ rfl (qQ rfl (qR rfl rfl (qS 12 rfl (oM · rfl) (qS 13 rfl (ok_len_sl (q := Sl.a x1) (n := Sl.len x1) (z := Sl.cap x1) · rfl tu42 (.tmp rfl)) (qS 14 rfl (ok_move · (.int _ _)) (rE ?_))))))))
  try dsimp only [w0,w1,w2,w3]
  refine q_block rfl (q_loop rfl ?_)
  try dsimp only [w0,w1,w2,w3]
  exact L0_snd  h
end set_Set_int_Remove
namespace room_Room_Add
theorem at_ : FnAt Tryz.prog 49 Tryz.f49 := ⟨Tryz.func49,by kernel_rfl⟩
def d0 := (Tryz.f49.body).getD .skip
def r1 := kR (kA d0)
def r4 := kR (kA (kA (kB d0)))
def r9 := kR (kA (kB (kB d0)))
def r10 := kR (kB (kB (kB d0)))
def c8 : Code := .seq (.region 2 r9 false) (.region 3 r10 false)
def c5 : Code := .cond (.tmp 18) .ret .skip
def c0 : Code := .seq (.region 0 r1 false) (.seq (.seq (.region 1 r4 false) c5) c8)
theorem body : Tryz.f49.body = some c0 := by kernel_rfl
def J0 (D : Dp) (H : Hd) (k : Nat) (y0 : HP) (y1 : Int) (y2 : Bool) (y6 : Int) (y18 : Bool) (S : HS) : Option ((Unit) × HS) :=
 (if y18 = true then
 some ((),S) else
 (y0.bind fun p4 =>
 ((S.ldSl (HA.fld p4 2)).bind fun p5 =>
 (letv (HS.lit S [[(.int .i64 y1),(.bool y2),(.bool false)]] 3) fun p6 =>
 ((slices_Insert_api_Member_api_Member_w.f p5 y6 (p6.1) (p6.2)).bind fun p7 =>
 (y0.bind fun p8 =>
 ((p7.2.sets (HA.fld p8 2) [(Sl.hv p7.1)]).bind fun p9 =>
 (y0.bind fun p10 =>
 ((p9.ldP (HA.fld p10 8)).bind fun p11 =>
 (letv (HS.lit p9 [[(.int .i64 y1)]] 1) fun p12 =>
 ((set_Set_int_Remove.f k p11 (p12.1) (p12.2)).bind fun p13 =>
 some ((),p13.2))))))))))))
theorem J0_snd (hD : DS base W0 D) (hH : HT base W0 β0 H)  {y0 : HP} {y1 : Int} {y2 : Bool} {y6 : Int} {y18 : Bool} {S : HS} {p : (Unit) × HS} (h : J0 D H k y0 y1 y2 y6 y18 S = some p) : HR base W0 β0 49 none [.code c5,.code c8] ⟨[(.ptr y0),(.int .i64 y1),(.bool y2),Gd,Ge,Gf,(.int .i64 y6),Gh,Gi,Gj,Gk,Gl,Gm,Gn,Go,Gp,Gq,Gr,(.bool y18),Gt,Gu,Gv,Gw,Gx,Gy,Gz,Ka,Kb,Kc,Kd,Ke,Kf,Kg,Kh,Ki,Kj,Kk,Kl,Km],[]⟩ S (fun v S1 => v = (.tup []) ∧ S1 = p.2) := by
 unfold J0 at h
 rcases ifc h with ⟨hc3,h⟩ | ⟨hc3,h⟩
 ·cases h
  exact q_cond_t rfl (.tmp rfl) hc3 (q_ret rfl at_.at_ rfl (res0 rfl) ⟨rfl,rfl⟩)
 ·obtain ⟨p4,hp4,h⟩ := bindo h
  refine q_cond_f rfl (.tmp rfl) (bfalse hc3) (q_skipc rfl (qQ rfl (qR rfl rfl (qS 19 rfl (oM · rfl) (qS 20 rfl (oM · rfl) (qS 21 rfl (oN · rfl hp4) (qS 22 rfl (oF · fi114_2 (by decide) rfl rfl) ?_)))))))
  try dsimp only [w0,w1,w2,w3]
  obtain ⟨p5,hp5,h⟩ := bindo h
  refine qS 23 rfl (oL · sc87 rfl rfl (ldSl_out hp5)) (qS 24 rfl (oM · rfl) (qS 25 rfl (oM · rfl) (qS 26 rfl (oM · rfl) ?_)))
  try dsimp only [w0,w1,w2,w3]
  obtain ⟨p6,hp6,h⟩ := leto h
  obtain ⟨p7,hp7,h⟩ := bindo h
  refine qS 27 rfl (ok_build (is := [0,1]) (xs := [(.tmp 25),(.tmp 26)]) (r := [(.int .i64 y1),(.bool y2),(.bool false)]) st62 · rfl rfl (.cons (.tmp rfl) (.cons (.tmp rfl) Evs.nil)) rfl) (qS 28 rfl (ok_buildSlice_s (xs := [(.tmp 27)]) el87 · rfl rfl (by decide) (.cons (.tmp rfl) Evs.nil) rfl rfl hp6) (q_call (dst := some 29) rfl (.func _) (.cons (.tmp rfl) (.cons (.tmp rfl) (.cons (.tmp rfl) Evs.nil))) (HInv.static slices_Insert_api_Member_api_Member_w.at_ slices_Insert_api_Member_api_Member_w.body (slices_Insert_api_Member_api_Member_w.snd  hp7)) ?_))
  rintro _ _ ⟨rfl,rfl⟩
  obtain ⟨p8,hp8,h⟩ := bindo h
  refine qS 30 rfl (oN · rfl hp8) ?_
  try dsimp only [w0,w1,w2,w3]
  obtain ⟨p9,hp9,h⟩ := bindo h
  refine qS 31 rfl (oF · fi114_2 (by decide) rfl rfl) (qN rfl (ok_store_s (v := (Sl.hv p7.1)) · sz87 (.tmp rfl) rfl (.tmp rfl) rfl hp9) (rE ?_))
  try dsimp only [w0,w1,w2,w3]
  obtain ⟨p10,hp10,h⟩ := bindo h
  obtain ⟨p11,hp11,h⟩ := bindo h
  refine qR rfl rfl (qS 32 rfl (oM · rfl) (qS 33 rfl (oN · rfl hp10) (qS 34 rfl (oF · fi114_8 (by decide) rfl rfl) (qS 35 rfl (oL · sc96 rfl rfl (ldP_out hp11)) ?_))))
  try dsimp only [w0,w1,w2,w3]
  obtain ⟨p12,hp12,h⟩ := leto h
  obtain ⟨p13,hp13,h⟩ := bindo h
  refine qS 36 rfl (oM · rfl) (qS 37 rfl (ok_buildSlice_s (xs := [(.tmp 36)]) el42 · rfl rfl (by decide) (.cons (.tmp rfl) Evs.nil) rfl rfl hp12) (q_call (dst := some 38) rfl (.func _) (.cons (.tmp rfl) (.cons (.tmp rfl) Evs.nil)) (HInv.static set_Set_int_Remove.at_ set_Set_int_Remove.body (set_Set_int_Remove.snd  hp13)) ?_))
  rintro _ _ ⟨rfl,rfl⟩
  refine rE ?_
  try dsimp only [w0,w1,w2,w3]
  cases h
  exact q_end at_.at_ rfl (res0 rfl) ⟨rfl,rfl⟩
def f (D : Dp) (H : Hd) (k : Nat) (x0 : HP) (x1 : Int) (x2 : Bool) (S : HS) : Option ((Unit) × HS) :=
 ((room_Room_at.f D H k x0 x1 S).bind fun p1 =>
 (if (Option.isNone x0) = true then
 J0 D H k x0 x1 x2 p1.1.1 true p1.2 else
 J0 D H k x0 x1 x2 p1.1.1 p1.1.2 p1.2))
theorem snd {x0 : HP} {x1 : Int} {x2 : Bool} {S : HS} (hD : DS base W0 D) (hH : HT base W0 β0 H)  {p : (Unit) × HS} (h : f D H k x0 x1 x2 S = some p) : HCall Tryz.prog base W0 β0 49 [(.ptr x0),(.int .i64 x1),(.bool x2)] S (fun v S1 => v = (.tup []) ∧ S1 = p.2) := by
 unfold f at h
 refine HCall.of_run at_.at_ body ?_
 show HR base W0 β0 49 none [.code c0] ⟨[(.ptr x0),(.int .i64 x1),(.bool x2),τ,τ,τ,τ,τ,τ,τ,τ,τ,τ,τ,τ,τ,τ,τ,τ,τ,τ,τ,τ,τ,τ,τ,τ,τ,τ,τ,τ,τ,τ,τ,τ,τ,τ,τ,τ],[]⟩ S _
 obtain ⟨p1,hp1,h⟩ := bindo h
 refine qQ rfl (qR rfl rfl (qS 9 rfl (oM · rfl) (qS 10 rfl (oM · rfl) (q_call (dst := some 11) rfl (.func _) (.cons (.tmp rfl) (.cons (.tmp rfl) Evs.nil)) (HInv.static room_Room_at.at_ room_Room_at.body (room_Room_at.snd hD hH hp1)) ?_))))
 rintro _ _ ⟨rfl,rfl⟩
 refine qS 8 rfl (oM · rfl) ?_
 try dsimp only [w0,w1,w2,w3]
 refine qS 12 rfl (ok_extract · (.tmp rfl) rfl) (qS 13 rfl (ok_extract · (.tmp rfl) rfl) (qS 6 rfl (oA · rfl) (qS 7 rfl (oA · rfl) (rE ?_))))
 try dsimp only [w0,w1,w2,w3]
 refine qQ rfl (qQ rfl (qR rfl rfl (qS 14 rfl (oM · rfl) (qS 15 rfl (ok_nil_ptr · tu36 (.tmp rfl) (.inl ⟨rfl,rfl⟩)) (qS 16 rfl (oM · rfl) ?_)))))
 rcases ifc h with ⟨hc2,h⟩ | ⟨hc2,h⟩
 ·refine q_skip (dst := some 17) (t := 16) rfl rfl rfl hc2 ?_
  try dsimp only [w0,w1,w2,w3]
  refine qS 18 rfl (ok_pick_tt · (.tmp rfl) hc2 (.bool _)) (rE ?_)
  try dsimp only [w0,w1,w2,w3]
  exact J0_snd hD hH h
 ·refine qG 16 17 rfl (bfalse hc2) (oM · rfl) ?_
  try dsimp only [w0,w1,w2,w3]
  refine qS 18 rfl (ok_pick_ff · (.tmp rfl) (bfalse hc2) (.tmp rfl)) (rE ?_)
  try dsimp only [w0,w1,w2,w3]
  exact J0_snd hD hH h
end room_Room_Add
end
end Go.Proofs.YtbmfomkfmpppiaaGreat.X
