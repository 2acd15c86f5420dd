/- Functions of the program, each as a Lean function over the layer HL: a call answers what the Lean function answers, where it answers. -/
import Derived.Test.YtcphapfclncggaaGreatDoorProg
import Derived.Test.YtcphapfclncggaaGreatDoorPart10
namespace Go.Proofs.YtcphapfclncggaaGreatDoor.X
open Go.Proofs.YtcphapfclncggaaGreatDoor.HL
set_option linter.unusedVariables false
set_option linter.unusedSimpArgs false
set_option maxRecDepth 20000
set_option maxHeartbeats 4000000
namespace slices_Delete_int_int
theorem at_ : FnAt Tryz.prog 75 Tryz.f75 := ⟨Tryz.func75,by kernel_rfl⟩
noncomputable def d0 := (Tryz.f75.body).getD .skip
noncomputable def r1 := kR (kA d0)
noncomputable def r3 := kR (kA (kB d0))
noncomputable def r6 := kR (kA (kA (kB (kB d0))))
noncomputable def r9 := kR (kA (kA (kB (kA (kB (kB d0))))))
noncomputable def d12 := kB (kB (kB d0))
noncomputable def r13 := kR (kA d12)
noncomputable def r15 := kR (kA (kB d12))
noncomputable def r17 := kR (kA (kB (kB d12)))
noncomputable def r19 := kR (kA (kB (kB (kB d12))))
noncomputable def c0 : Code := .seq (.region 0 r1 false) (.seq (.region 1 r3 false) (.seq (.seq (.region 2 r6 false) (.cond (.tmp 16) (.seq (.region 3 r9 false) .ret) .skip)) (.seq (.region 4 r13 false) (.seq (.region 5 r15 true) (.seq (.region 6 r17 false) (.seq (.region 7 r19 false) .ret))))))
theorem body : Tryz.f75.body = some c0 := by kernel_rfl
section
variable {base : Nat} {W0 : World} {β0 : Bt}
def f (x0 : Sl) (x1 : Int) (x2 : Int) (S : HS) : Option ((Sl) × HS) :=
 (Option.bind (HS.cut3 S x0 x1 x2 (Sl.len x0 : Int) 1) fun p1 =>
 (if x1 = x2 then
 some (x0,S) else
 (Option.bind (HS.cut S x0 0 x1 1) fun p3 =>
 (Option.bind (HS.cut S x0 x2 (Sl.len x0 : Int) 1) fun p4 =>
 (Option.bind (HS.rows S p4 1) fun p5 =>
 (Option.bind (HS.app S p3 p5 1) fun p6 =>
 (Option.bind (HS.cut (p6.2) (p6.1) (Sl.len (p6.1) : Int) (Sl.len x0 : Int) 1) fun p7 =>
 (Option.bind (HS.over (p6.2) p7 (List.replicate (Sl.len p7) [(.int .i64 0)]) 1) fun p8 =>
 some ((p6.1),p8)))))))))
theorem snd {x0 : Sl} {x1 : Int} {x2 : Int} {S : HS}  {p : (Sl) × HS} (h : f x0 x1 x2 S = some p) : HCall Tryz.prog base W0 β0 75 [(Sl.hv x0),(.int .i64 x1),(.int .i64 x2)] S (fun v S1 => v = (Sl.hv p.1) ∧ S1 = p.2) := by
 unfold f at h
 refine HCall.of_run at_.at_ body ?_
 show HRun Tryz.prog base W0 β0 75 none [.code c0] ⟨[(Sl.hv x0),(.int .i64 x1),(.int .i64 x2),τ,τ,τ,τ,τ,τ,τ,τ,τ,τ,τ,τ,τ,τ,τ,τ,τ,τ,τ,τ,τ,τ,τ,τ,τ,τ,τ,τ,τ,τ],[]⟩ S _
 refine qQ rfl (qR rfl rfl (qS 6 rfl (ok_assign · (.const fun _ => .slNil none)) (rE ?_)))
 try dsimp only [w0,w1,w2,w3]
 refine qQ rfl (qR rfl rfl (qS 8 rfl (oM · rfl) (qS 9 rfl (oM · rfl) (qS 10 rfl (oM · rfl) (qS 11 rfl (oM · rfl) ?_)))))
 try dsimp only [w0,w1,w2,w3]
 obtain ⟨p1,hp1,h⟩ := bindo h
 refine qS 12 rfl (ok_len_sl (q := Sl.a x0) (n := Sl.len x0) (z := Sl.cap x0) · rfl tu41 (.tmp rfl)) (qS 13 rfl (ok_slice3 (kl := .i64) (kh := .i64) (s := x0) (l := x1) (h := x2) · tu41 si3 (.tmp rfl) (.inr ⟨_,rfl,(.tmp rfl)⟩) (.inr ⟨_,rfl,(.tmp rfl)⟩) (.tmp rfl) hp1) (rE ?_))
 try dsimp only [w0,w1,w2,w3]
 refine qQ rfl (qQ rfl (qR rfl rfl (qS 14 rfl (oM · rfl) (qS 15 rfl (oM · rfl) (qS 16 rfl (oB · rfl rfl rfl) (rE ?_))))))
 try dsimp only [w0,w1,w2,w3]
 rcases ifc h with ⟨hc2,h⟩ | ⟨hc2,h⟩
 ·refine q_cond_t rfl (.tmp rfl) (decide_eq_true hc2) (qQ rfl (qR rfl rfl (qS 17 rfl (oM · rfl) (qS 6 rfl (oA · rfl) (rE ?_)))))
  try dsimp only [w0,w1,w2,w3]
  cases h
  exact q_ret rfl at_.at_ rfl (res1 rfl rfl) ⟨rfl,rfl⟩
 ·refine q_cond_f rfl (.tmp rfl) (decide_eq_false hc2) (q_skipc rfl (qQ rfl (qR rfl rfl (qS 18 rfl (oM · rfl) (qS 19 rfl (ok_len_sl (q := Sl.a x0) (n := Sl.len x0) (z := Sl.cap x0) · rfl tu41 (.tmp rfl)) (qS 7 rfl (oA · rfl) (rE ?_)))))))
  try dsimp only [w0,w1,w2,w3]
  refine qQ rfl ?_
  refine x_start (cls := [0,0,1,0,0,1,2,0]) (rk := [0,1,2,3,4,5,6,7]) rfl (by kernel_rfl) ?_
  refine yf 20 [0] rfl (oM · rfl) ?_
  refine yf 21 [1] rfl (oM · rfl) ?_
  obtain ⟨p3,hp3,h⟩ := bindo h
  refine yr 22 [20,21] rfl (ok_slice (kl := .i64) (kh := .i64) (s := x0) (l := 0) (h := x1) · tu41 si3 (.tmp rfl) (.inl ⟨rfl,rfl⟩) (.inr ⟨_,rfl,(.tmp rfl)⟩) hp3) ?_
  refine yf 23 [0] rfl (oM · rfl) ?_
  try dsimp only [w0,w1,w2,w3]
  refine yf 24 [2] rfl (oM · rfl) ?_
  obtain ⟨p4,hp4,h⟩ := bindo h
  refine yr 25 [23,24] rfl (ok_slice (kl := .i64) (kh := .i64) (s := x0) (l := x2) (h := (Sl.len x0 : Int)) · tu41 si3 (.tmp rfl) (.inr ⟨_,rfl,(.tmp rfl)⟩) (.inl ⟨rfl,rfl⟩) hp4) ?_
  obtain ⟨p5,hp5,h⟩ := bindo h
  obtain ⟨p6,hp6,h⟩ := bindo h
  refine ye 26 [22,25] rfl (ok_append (s := p3) (s1 := p4) el41 · rfl rfl ⟨_,tu41⟩ (.tmp rfl) (.tmp rfl) hp5 hp6) ?_
  refine yf 0 [26] rfl (oA · rfl) ?_
  refine x_rest rfl ?_
  refine rE ?_
  try dsimp only [w0,w1,w2,w3]
  refine qQ rfl (qR rfl rfl (qS 27 rfl (oM · rfl) (qS 28 rfl (oM · rfl) (qS 29 rfl (ok_len_sl (q := Sl.a (p6.1)) (n := Sl.len (p6.1)) (z := Sl.cap (p6.1)) · rfl tu41 (.tmp rfl)) (qS 30 rfl (oM · rfl) ?_)))))
  try dsimp only [w0,w1,w2,w3]
  obtain ⟨p7,hp7,h⟩ := bindo h
  obtain ⟨p8,hp8,h⟩ := bindo h
  refine qS 31 rfl (ok_slice (kl := .i64) (kh := .i64) (s := (p6.1)) (l := (Sl.len (p6.1) : Int)) (h := (Sl.len x0 : Int)) · tu41 si3 (.tmp rfl) (.inr ⟨_,rfl,(.tmp rfl)⟩) (.inr ⟨_,rfl,(.tmp rfl)⟩) hp7) (qN rfl (ok_clear (s := p7) el41 · rfl (.tmp rfl) hp8) (rE ?_))
  try dsimp only [w0,w1,w2,w3]
  refine qQ rfl (qR rfl rfl (qS 32 rfl (oM · rfl) (qS 6 rfl (oA · rfl) (rE ?_))))
  try dsimp only [w0,w1,w2,w3]
  cases h
  exact q_ret rfl at_.at_ rfl (res1 rfl rfl) ⟨rfl,rfl⟩
end
end slices_Delete_int_int
namespace slices_Delete_int_int_w
theorem at_ : FnAt Tryz.prog 75 Tryz.f75 := slices_Delete_int_int.at_
theorem body : Tryz.f75.body = some slices_Delete_int_int.c0 := slices_Delete_int_int.body
def f (x0 : Sl) (x1 : Int) (x2 : Int) (S : HS) : Option ((Sl) × HS) := HS.del S x0 x1 x2 1
theorem snd {base : Nat} {W0 : World} {β0 : Bt} {x0 : Sl} {x1 x2 : Int} {S : HS} {p : (Sl) × HS} (h : f x0 x1 x2 S = some p) : HCall Tryz.prog base W0 β0 75 [(Sl.hv x0),(.int .i64 x1),(.int .i64 x2)] S (fun v S1 => v = (Sl.hv p.1) ∧ S1 = p.2) :=
 del_snd (zr := [(.int .i64 0)]) (fun _ _ _ h => slices_Delete_int_int.snd h) h
end slices_Delete_int_int_w
namespace set_Set_int_Remove
theorem at_ : FnAt Tryz.prog 56 Tryz.f56 := ⟨Tryz.func56,by kernel_rfl⟩
noncomputable def d0 := (Tryz.f56.body).getD .skip
noncomputable def r1 := kR (kA d0)
noncomputable def r3 := kR (kA (kB d0))
noncomputable def r6 := kR (kA (kA (kB (kB d0))))
noncomputable def r9 := kR (kA (kA (kB (kA (kB (kB d0))))))
noncomputable def d12 := kB (kB (kB d0))
noncomputable def r14 := kR (kA (kA d12))
noncomputable def d16 := kA (kB (kA d12))
noncomputable def r18 := kR (kA (kA d16))
noncomputable def d23 := kB (kB (kA d16))
noncomputable def r26 := kR (kA (kA (kA d23)))
noncomputable def d27 := kB (kA (kA d23))
noncomputable def r28 := kR (kA d27)
noncomputable def r30 := kR (kA (kB d27))
noncomputable def r33 := kR (kA (kA (kB (kB d27))))
noncomputable def r34 := kR (kB (kA (kB (kB d27))))
noncomputable def r36 := kR (kB d23)
noncomputable def r38 := kR (kA (kB d12))
noncomputable def c37 : Code := .seq (.region 12 r38 false) .ret
noncomputable def c36 : Code := .region 11 r36 false
noncomputable def c17 : Code := .seq (.region 5 r18 false) (.seq (.cond (.tmp 15) .skip (.exit 0)) (.seq (.block 1 (.seq (.region 6 r26 false) (.seq (.region 7 r28 false) (.seq (.region 8 r30 false) (.cond (.tmp 27) (.seq (.region 9 r33 false) (.region 10 r34 false)) .skip))))) c36))
noncomputable def c0 : Code := .seq (.region 0 r1 false) (.seq (.region 1 r3 false) (.seq (.seq (.region 2 r6 false) (.cond (.tmp 11) (.seq (.region 3 r9 false) .ret) .skip)) (.seq (.seq (.region 4 r14 false) (.block 0 (.loop c17))) c37)))
theorem body : Tryz.f56.body = some c0 := by kernel_rfl
section
variable {base : Nat} {W0 : World} {β0 : Bt}
def J1 (k : Nat) (rec0 : (Option HA) → Int → Sl → Int → Int → HS → Option ((Int) × HS)) (y0 : (Option HA)) (y5 : Int) (y12 : Sl) (y13 : Int) (y14 : Int) (S : HS) : Option ((Int) × HS) :=
 rec0 y0 y5 y12 y13 (w64 (y14 + 1)) S
theorem J1_snd {k : Nat} {rec0 : (Option HA) → Int → Sl → Int → Int → HS → Option ((Int) × HS)} (hrec0 : ∀ ⦃y0 : (Option HA)⦄ ⦃y5 : Int⦄ ⦃y12 : Sl⦄ ⦃y13 : Int⦄ ⦃y14 : Int⦄ ⦃S : HS⦄ ⦃p : (Int) × HS⦄ ⦃Gb Gc Gd Ge Gg Gh Gi Gj Gk Gl Gp Gq Gr Gs Gt Gu Gv Gw Gx Gy Gz Ka Kb Kc Kd Ke Kf Kg Kh Ki Kj Kk Kl Km Kn Ko Kp Kq : HV⦄,rec0 y0 y5 y12 y13 y14 S = some p → HRun Tryz.prog base W0 β0 56 none [.inLoop c17,.inBlock 0,.code c37] ⟨[(.ptr y0),Gb,Gc,Gd,Ge,(.int .i64 y5),Gg,Gh,Gi,Gj,Gk,Gl,(Sl.hv y12),(.int .i64 y13),(.int .i64 y14),Gp,Gq,Gr,Gs,Gt,Gu,Gv,Gw,Gx,Gy,Gz,Ka,Kb,Kc,Kd,Ke,Kf,Kg,Kh,Ki,Kj,Kk,Kl,Km,Kn,Ko,Kp,Kq],[]⟩ S (fun v S1 => v = (.int .i64 p.1) ∧ S1 = p.2)) {y0 : (Option HA)} {y5 : Int} {y12 : Sl} {y13 : Int} {y14 : Int} {S : HS} {p : (Int) × HS} {Gb Gc Gd Ge Gg Gh Gi Gj Gk Gl Gp Gq Gr Gs Gt Gu Gv Gw Gx Gy Gz Ka Kb Kc Kd Ke Kf Kg Kh Ki Kj Kk Kl Km Kn Ko Kp Kq : HV} (h : J1 k rec0 y0 y5 y12 y13 y14 S = some p) : HRun Tryz.prog base W0 β0 56 none [.code c36,.inLoop c17,.inBlock 0,.code c37] ⟨[(.ptr y0),Gb,Gc,Gd,Ge,(.int .i64 y5),Gg,Gh,Gi,Gj,Gk,Gl,(Sl.hv y12),(.int .i64 y13),(.int .i64 y14),Gp,Gq,Gr,Gs,Gt,Gu,Gv,Gw,Gx,Gy,Gz,Ka,Kb,Kc,Kd,Ke,Kf,Kg,Kh,Ki,Kj,Kk,Kl,Km,Kn,Ko,Kp,Kq],[]⟩ S (fun v S1 => v = (.int .i64 p.1) ∧ S1 = p.2) := by
 unfold J1 at h
 refine qR rfl rfl (qS 41 rfl (oC · rfl rfl) (qS 14 rfl (oM · rfl) (rE ?_)))
 try dsimp only [w0,w1,w2,w3]
 try dsimp only [w0,w1,w2,w3]
 exact hrec0 h
def L0 (k : Nat) : Nat → (Option HA) → Int → Sl → Int → Int → HS → Option ((Int) × HS)
 | 0,_,_,_,_,_,_ => none
 | n + 1,y0,y5,y12,y13,y14,S =>
  (if y14 < y13 then
  (Option.bind (HS.idx S y12 y14 1) fun p3 =>
  (Option.bind (HS.ldI S .i64 p3) fun p4 =>
  (Option.bind (y0) fun p5 =>
  (Option.bind (HS.ldSl S (HA.fld p5 0)) fun p6 =>
  (Option.bind (slices_BinarySearch_int_int.f k p6 p4 S) fun p7 =>
  (if p7.1.2 = true then
  (Option.bind (y0) fun p9 =>
  (Option.bind (HS.ldSl p7.2 (HA.fld p9 0)) fun p10 =>
  (Option.bind (slices_Delete_int_int_w.f p10 p7.1.1 (w64 (p7.1.1 + 1)) p7.2) fun p11 =>
  (Option.bind (y0) fun p12 =>
  (Option.bind (HS.sets p11.2 (HA.fld p12 0) [(Sl.hv p11.1)]) fun p13 =>
  J1 k (L0 k n) y0 (w64 (y5 + 1)) y12 y13 y14 p13))))) else
  J1 k (L0 k n) y0 y5 y12 y13 y14 p7.2)))))) else
  some (y5,S))
theorem L0_snd {k : Nat}  : ∀ {n : Nat} ⦃y0 : (Option HA)⦄ ⦃y5 : Int⦄ ⦃y12 : Sl⦄ ⦃y13 : Int⦄ ⦃y14 : Int⦄ ⦃S : HS⦄ ⦃p : (Int) × HS⦄ ⦃Gb Gc Gd Ge Gg Gh Gi Gj Gk Gl Gp Gq Gr Gs Gt Gu Gv Gw Gx Gy Gz Ka Kb Kc Kd Ke Kf Kg Kh Ki Kj Kk Kl Km Kn Ko Kp Kq : HV⦄,L0 k n y0 y5 y12 y13 y14 S = some p → HRun Tryz.prog base W0 β0 56 none [.inLoop c17,.inBlock 0,.code c37] ⟨[(.ptr y0),Gb,Gc,Gd,Ge,(.int .i64 y5),Gg,Gh,Gi,Gj,Gk,Gl,(Sl.hv y12),(.int .i64 y13),(.int .i64 y14),Gp,Gq,Gr,Gs,Gt,Gu,Gv,Gw,Gx,Gy,Gz,Ka,Kb,Kc,Kd,Ke,Kf,Kg,Kh,Ki,Kj,Kk,Kl,Km,Kn,Ko,Kp,Kq],[]⟩ S (fun v S1 => v = (.int .i64 p.1) ∧ S1 = p.2) := by
 intro n
 induction n with
 | zero => intro _ _ _ _ _ _ _ _ _ _ _ _ _ _ _ _ _ _ _ _ _ _ _ _ _ _ _ _ _ _ _ _ _ _ _ _ _ _ _ _ _ _ _ _ _ h; cases h
 | succ n ih =>
  intro y0 y5 y12 y13 y14 S p Gb Gc Gd Ge Gg Gh Gi Gj Gk Gl Gp Gq Gr Gs Gt Gu Gv Gw Gx Gy Gz Ka Kb Kc Kd Ke Kf Kg Kh Ki Kj Kk Kl Km Kn Ko Kp Kq h
  simp only [L0] at h
  refine hr_inLoop (qQ rfl (qR rfl rfl (qS 15 rfl (oB · rfl rfl rfl) (rE ?_))))
  try dsimp only [w0,w1,w2,w3]
  refine qQ rfl ?_
  rcases ifc h with ⟨hc2,h⟩ | ⟨hc2,h⟩
  ·obtain ⟨p3,hp3,h⟩ := bindo h
   obtain ⟨p4,hp4,h⟩ := bindo h
   refine q_cond_t rfl (.tmp rfl) (decide_eq_true hc2) (q_skipc rfl (qQ rfl (q_block rfl (qQ rfl (qR rfl rfl (qS 16 rfl (oX (s := y12) · tu41 sz3 rfl rfl hp3) (qS 17 rfl (oL · sc3 rfl rfl (ldI_out hp4)) (qS 7 rfl (oA · rfl) (rE ?_)))))))))
   try dsimp only [w0,w1,w2,w3]
   obtain ⟨p5,hp5,h⟩ := bindo h
   obtain ⟨p6,hp6,h⟩ := bindo h
   refine qQ rfl (qR rfl rfl (qS 19 rfl (oM · rfl) (qS 20 rfl (oN · rfl hp5) (qS 21 rfl (oF · fi112_0 (by decide) rfl rfl) (qS 22 rfl (oL · sc41 rfl rfl (ldSl_out hp6)) ?_)))))
   try dsimp only [w0,w1,w2,w3]
   obtain ⟨p7,hp7,h⟩ := bindo h
   refine qS 23 rfl (oM · rfl) (q_call (dst := some 24) rfl (.func _) (.cons (.tmp rfl) (.cons (.tmp rfl) Evs.nil)) (HInv.static slices_BinarySearch_int_int.at_ slices_BinarySearch_int_int.body (slices_BinarySearch_int_int.snd  hp7)) ?_)
   rintro _ _ ⟨rfl,rfl⟩
   refine qS 18 rfl (oM · rfl) (qS 25 rfl (ok_extract · (.tmp rfl) rfl) ?_)
   try dsimp only [w0,w1,w2,w3]
   refine qS 26 rfl (ok_extract · (.tmp rfl) rfl) (qS 8 rfl (oA · rfl) (qS 9 rfl (oA · rfl) (rE ?_)))
   try dsimp only [w0,w1,w2,w3]
   refine qQ rfl (qR rfl rfl (qS 27 rfl (oM · rfl) (rE ?_)))
   try dsimp only [w0,w1,w2,w3]
   rcases ifc h with ⟨hc8,h⟩ | ⟨hc8,h⟩
   ·obtain ⟨p9,hp9,h⟩ := bindo h
    refine q_cond_t rfl (.tmp rfl) hc8 (qQ rfl (qR rfl rfl (qS 28 rfl (oM · rfl) (qS 29 rfl (oM · rfl) (qS 30 rfl (oN · rfl hp9) (qS 31 rfl (oF · fi112_0 (by decide) rfl rfl) ?_))))))
    try dsimp only [w0,w1,w2,w3]
    obtain ⟨p10,hp10,h⟩ := bindo h
    refine qS 32 rfl (oL · sc41 rfl rfl (ldSl_out hp10)) (qS 33 rfl (oM · rfl) (qS 34 rfl (oM · rfl) (qS 35 rfl (oC · rfl rfl) ?_)))
    try dsimp only [w0,w1,w2,w3]
    obtain ⟨p11,hp11,h⟩ := bindo h
    refine q_call (dst := some 36) rfl (.func _) (.cons (.tmp rfl) (.cons (.tmp rfl) (.cons (.tmp rfl) Evs.nil))) (HInv.static slices_Delete_int_int_w.at_ slices_Delete_int_int_w.body (slices_Delete_int_int_w.snd  hp11)) ?_
    rintro _ _ ⟨rfl,rfl⟩
    obtain ⟨p12,hp12,h⟩ := bindo h
    obtain ⟨p13,hp13,h⟩ := bindo h
    refine qS 37 rfl (oN · rfl hp12) (qS 38 rfl (oF · fi112_0 (by decide) rfl rfl) (qN rfl (ok_store_s (v := (Sl.hv p11.1)) · sz41 (.tmp rfl) rfl (.tmp rfl) rfl hp13) (rE ?_)))
    try dsimp only [w0,w1,w2,w3]
    refine qR rfl rfl (qS 39 rfl (oM · rfl) (qS 40 rfl (oC · rfl rfl) (qS 5 rfl (oA · rfl) (rE ?_))))
    try dsimp only [w0,w1,w2,w3]
    refine hr_inBlock ?_
    try dsimp only [w0,w1,w2,w3]
    exact J1_snd ih h
   ·refine q_cond_f rfl (.tmp rfl) (bfalse hc8) (q_skipc rfl (hr_inBlock ?_))
    try dsimp only [w0,w1,w2,w3]
    exact J1_snd ih h
  ·refine q_cond_f rfl (.tmp rfl) (decide_eq_false hc2) (q_exit rfl rfl (qQ rfl (qR rfl rfl (qS 42 rfl (oM · rfl) (qS 4 rfl (oA · rfl) (rE ?_))))))
   try dsimp only [w0,w1,w2,w3]
   cases h
   exact q_ret rfl at_.at_ rfl (res1 rfl rfl) ⟨rfl,rfl⟩
def f (k : Nat) (x0 : (Option HA)) (x1 : Sl) (S : HS) : Option ((Int) × HS) :=
 (if (Option.isNone x0) = true then
 some (0,S) else
 L0 k k x0 0 x1 (Sl.len x1 : Int) 0 S)
theorem snd {k : Nat} {x0 : (Option HA)} {x1 : Sl} {S : HS}  {p : (Int) × HS} (h : f k x0 x1 S = some p) : HCall Tryz.prog base W0 β0 56 [(.ptr x0),(Sl.hv x1)] S (fun v S1 => v = (.int .i64 p.1) ∧ S1 = p.2) := by
 unfold f at h
 refine HCall.of_run at_.at_ body ?_
 show HRun Tryz.prog base W0 β0 56 none [.code c0] ⟨[(.ptr x0),(Sl.hv x1),τ,τ,τ,τ,τ,τ,τ,τ,τ,τ,τ,τ,τ,τ,τ,τ,τ,τ,τ,τ,τ,τ,τ,τ,τ,τ,τ,τ,τ,τ,τ,τ,τ,τ,τ,τ,τ,τ,τ,τ,τ],[]⟩ S _
 refine qQ rfl (qR rfl rfl (qS 4 rfl (ok_assign · (.int _ _)) (rE ?_)))
 try dsimp only [w0,w1,w2,w3]
 refine qQ rfl (qR rfl rfl (qS 5 rfl (ok_assign · (.int _ _)) (rE ?_)))
 try dsimp only [w0,w1,w2,w3]
 refine qQ rfl (qQ rfl (qR rfl rfl (qS 10 rfl (oM · rfl) (qS 11 rfl (ok_nil_ptr · tu96 (.tmp rfl) (.inl ⟨rfl,rfl⟩)) (rE ?_)))))
 try dsimp only [w0,w1,w2,w3]
 rcases ifc h with ⟨hc1,h⟩ | ⟨hc1,h⟩
 ·refine q_cond_t rfl (.tmp rfl) hc1 (qQ rfl (qR rfl rfl (qS 4 rfl (ok_assign · (.int _ _)) (rE ?_))))
  try dsimp only [w0,w1,w2,w3]
  cases h
  exact q_ret rfl at_.at_ rfl (res1 rfl rfl) ⟨rfl,rfl⟩
 ·refine q_cond_f rfl (.tmp rfl) (bfalse hc1) (q_skipc rfl (qQ rfl (qQ rfl (qR rfl rfl (qS 12 rfl (oM · rfl) (qS 13 rfl (ok_len_sl (q := Sl.a x1) (n := Sl.len x1) (z := Sl.cap x1) · rfl tu41 (.tmp rfl)) (qS 14 rfl (ok_move · (.int _ _)) (rE ?_))))))))
  try dsimp only [w0,w1,w2,w3]
  refine q_block rfl (q_loop rfl ?_)
  try dsimp only [w0,w1,w2,w3]
  exact L0_snd  h
end
end set_Set_int_Remove
namespace set_Set_int_Len
theorem at_ : FnAt Tryz.prog 57 Tryz.f57 := ⟨Tryz.func57,by kernel_rfl⟩
noncomputable def d0 := (Tryz.f57.body).getD .skip
noncomputable def r1 := kR (kA d0)
noncomputable def r4 := kR (kA (kA (kB d0)))
noncomputable def r7 := kR (kA (kA (kB (kA (kB d0)))))
noncomputable def r11 := kR (kA (kB (kB d0)))
noncomputable def c0 : Code := .seq (.region 0 r1 false) (.seq (.seq (.region 1 r4 false) (.cond (.tmp 4) (.seq (.region 2 r7 false) .ret) .skip)) (.seq (.region 3 r11 false) .ret))
theorem body : Tryz.f57.body = some c0 := by kernel_rfl
section
variable {base : Nat} {W0 : World} {β0 : Bt}
def f (x0 : (Option HA)) (S : HS) : Option ((Int) × HS) :=
 (if (Option.isNone x0) = true then
 some (0,S) else
 (Option.bind (x0) fun p2 =>
 (Option.bind (HS.ldSl S (HA.fld p2 0)) fun p3 =>
 some ((Sl.len p3 : Int),S))))
theorem snd {x0 : (Option HA)} {S : HS}  {p : (Int) × HS} (h : f x0 S = some p) : HCall Tryz.prog base W0 β0 57 [(.ptr x0)] S (fun v S1 => v = (.int .i64 p.1) ∧ S1 = p.2) := by
 unfold f at h
 refine HCall.of_run at_.at_ body ?_
 show HRun Tryz.prog base W0 β0 57 none [.code c0] ⟨[(.ptr x0),τ,τ,τ,τ,τ,τ,τ,τ,τ],[]⟩ S _
 refine qQ rfl (qR rfl rfl (qS 2 rfl (ok_assign · (.int _ _)) (rE ?_)))
 try dsimp only [w0,w1,w2,w3]
 refine qQ rfl (qQ rfl (qR rfl rfl (qS 3 rfl (oM · rfl) (qS 4 rfl (ok_nil_ptr · tu96 (.tmp rfl) (.inl ⟨rfl,rfl⟩)) (rE ?_)))))
 try dsimp only [w0,w1,w2,w3]
 rcases ifc h with ⟨hc1,h⟩ | ⟨hc1,h⟩
 ·refine q_cond_t rfl (.tmp rfl) hc1 (qQ rfl (qR rfl rfl (qS 2 rfl (ok_assign · (.int _ _)) (rE ?_))))
  try dsimp only [w0,w1,w2,w3]
  cases h
  exact q_ret rfl at_.at_ rfl (res1 rfl rfl) ⟨rfl,rfl⟩
 ·obtain ⟨p2,hp2,h⟩ := bindo h
  obtain ⟨p3,hp3,h⟩ := bindo h
  refine q_cond_f rfl (.tmp rfl) (bfalse hc1) (q_skipc rfl (qQ rfl (qR rfl rfl (qS 5 rfl (oM · rfl) (qS 6 rfl (oN · rfl hp2) (qS 7 rfl (oF · fi112_0 (by decide) rfl rfl) (qS 8 rfl (oL · sc41 rfl rfl (ldSl_out hp3)) ?_)))))))
  try dsimp only [w0,w1,w2,w3]
  refine qS 9 rfl (ok_len_sl (q := Sl.a p3) (n := Sl.len p3) (z := Sl.cap p3) · rfl tu41 (.tmp rfl)) (qS 2 rfl (oA · rfl) (rE ?_))
  try dsimp only [w0,w1,w2,w3]
  cases h
  exact q_ret rfl at_.at_ rfl (res1 rfl rfl) ⟨rfl,rfl⟩
end
end set_Set_int_Len
namespace pair_take_string_int
theorem at_ : FnAt Tryz.prog 40 Tryz.f40 := ⟨Tryz.func40,by kernel_rfl⟩
noncomputable def d0 := (Tryz.f40.body).getD .skip
noncomputable def r1 := kR (kA d0)
noncomputable def r3 := kR (kA (kB d0))
noncomputable def r5 := kR (kA (kB (kB d0)))
noncomputable def c0 : Code := .seq (.region 0 r1 false) (.seq (.region 1 r3 false) (.cond (.tmp 16) (.region 2 r5 false) .skip))
theorem body : Tryz.f40.body = some c0 := by kernel_rfl
section
variable {base : Nat} {W0 : World} {β0 : Bt}
def J0 (k : Nat) (S : HS) : Option ((Unit) × HS) :=
 some ((),S)
theorem J0_snd {k : Nat}  {S : HS} {p : (Unit) × HS} {Ga Gb Gc Gd Ge Gf Gg Gh Gi Gj Gk Gl Gm Gn Go Gp Gq Gr Gs : HV} (h : J0 k S = some p) : HRun Tryz.prog base W0 β0 40 none [] ⟨[Ga,Gb,Gc,Gd,Ge,Gf,Gg,Gh,Gi,Gj,Gk,Gl,Gm,Gn,Go,Gp,Gq,Gr,Gs],[]⟩ S (fun v S1 => v = (.tup []) ∧ S1 = p.2) := by
 unfold J0 at h
 cases h
 exact q_end at_.at_ rfl (res0 rfl) ⟨rfl,rfl⟩
def f (k : Nat) (x0 : (Option Nat)) (x1 : (List UInt8)) (x2 : Int) (S : HS) : Option ((Unit) × HS) :=
 (Option.bind (HS.look S x0 (.str x1)) fun p1 =>
 (Option.bind (dP (Option.getD p1 (.ptr none))) fun p2 =>
 (letv (HS.lit S [[(.int .i64 x2)]] 1) fun p3 =>
 (Option.bind (set_Set_int_Remove.f k p2 (p3.1) (p3.2)) fun p4 =>
 (Option.bind (HS.look p4.2 x0 (.str x1)) fun p5 =>
 (Option.bind (dP (Option.getD p5 (.ptr none))) fun p6 =>
 (Option.bind (set_Set_int_Len.f p6 p4.2) fun p7 =>
 (if p7.1 = 0 then
 (Option.bind (HS.mdel p7.2 x0 (.str x1)) fun p9 =>
 J0 k p9) else
 J0 k p7.2))))))))
theorem snd {k : Nat} {x0 : (Option Nat)} {x1 : (List UInt8)} {x2 : Int} {S : HS}  {p : (Unit) × HS} (h : f k x0 x1 x2 S = some p) : HCall Tryz.prog base W0 β0 40 [(.map x0),(.str x1),(.int .i64 x2)] S (fun v S1 => v = (.tup []) ∧ S1 = p.2) := by
 unfold f at h
 refine HCall.of_run at_.at_ body ?_
 show HRun Tryz.prog base W0 β0 40 none [.code c0] ⟨[(.map x0),(.str x1),(.int .i64 x2),τ,τ,τ,τ,τ,τ,τ,τ,τ,τ,τ,τ,τ,τ,τ,τ],[]⟩ S _
 obtain ⟨p1,hp1,h⟩ := bindo h
 obtain ⟨p2,hp2,h⟩ := bindo h
 refine qQ rfl (qR rfl rfl (qS 6 rfl (oM · rfl) (qS 7 rfl (oM · rfl) (qS 8 rfl (ok_lookup · tu79 zi96 (fun β => .ptrNil) (keyStr tu9) (.tmp rfl) (.tmp rfl) hp1 (dP_out hp2)) (qS 9 rfl (oM · rfl) ?_)))))
 try dsimp only [w0,w1,w2,w3]
 obtain ⟨p3,hp3,h⟩ := leto h
 obtain ⟨p4,hp4,h⟩ := bindo h
 refine qS 10 rfl (ok_buildSlice_s (xs := [(.tmp 9)]) el41 · rfl rfl (by decide) (.cons (.tmp rfl) Evs.nil) rfl rfl hp3) (q_call (dst := some 11) rfl (.func _) (.cons (.tmp rfl) (.cons (.tmp rfl) Evs.nil)) (HInv.static set_Set_int_Remove.at_ set_Set_int_Remove.body (set_Set_int_Remove.snd  hp4)) ?_)
 rintro _ _ ⟨rfl,rfl⟩
 refine rE ?_
 try dsimp only [w0,w1,w2,w3]
 obtain ⟨p5,hp5,h⟩ := bindo h
 obtain ⟨p6,hp6,h⟩ := bindo h
 obtain ⟨p7,hp7,h⟩ := bindo h
 refine qQ rfl (qR rfl rfl (qS 12 rfl (oM · rfl) (qS 13 rfl (oM · rfl) (qS 14 rfl (ok_lookup · tu79 zi96 (fun β => .ptrNil) (keyStr tu9) (.tmp rfl) (.tmp rfl) hp5 (dP_out hp6)) (q_call (dst := some 15) rfl (.func _) (.cons (.tmp rfl) Evs.nil) (HInv.static set_Set_int_Len.at_ set_Set_int_Len.body (set_Set_int_Len.snd  hp7)) ?_)))))
 rintro _ _ ⟨rfl,rfl⟩
 try dsimp only [w0,w1,w2,w3]
 refine qS 16 rfl (oC · rfl rfl) (rE ?_)
 try dsimp only [w0,w1,w2,w3]
 rcases ifc h with ⟨hc8,h⟩ | ⟨hc8,h⟩
 ·obtain ⟨p9,hp9,h⟩ := bindo h
  refine q_cond_t rfl (.tmp rfl) (decide_eq_true hc8) (qR rfl rfl (qS 17 rfl (oM · rfl) (qS 18 rfl (oM · rfl) (qN rfl (ok_delete · rfl tu79 (keyStr tu9) (.tmp rfl) (.tmp rfl) hp9) (rE ?_)))))
  try dsimp only [w0,w1,w2,w3]
  try dsimp only [w0,w1,w2,w3]
  exact J0_snd  h
 ·refine q_cond_f rfl (.tmp rfl) (decide_eq_false hc8) (q_skipc rfl ?_)
  try dsimp only [w0,w1,w2,w3]
  exact J0_snd  h
end
end pair_take_string_int
namespace pair_Rel_int_string_Remove
theorem at_ : FnAt Tryz.prog 26 Tryz.f26 := ⟨Tryz.func26,by kernel_rfl⟩
noncomputable def d0 := (Tryz.f26.body).getD .skip
noncomputable def r1 := kR (kA d0)
noncomputable def r4 := kR (kA (kA (kB d0)))
noncomputable def r7 := kR (kA (kA (kB (kA (kB d0)))))
noncomputable def r11 := kR (kA (kB (kB d0)))
noncomputable def r13 := kR (kA (kB (kB (kB d0))))
noncomputable def r15 := kR (kA (kB (kB (kB (kB d0)))))
noncomputable def r17 := kR (kA (kB (kB (kB (kB (kB d0))))))
noncomputable def c0 : Code := .seq (.region 0 r1 false) (.seq (.seq (.region 1 r4 false) (.cond (.tmp 11) (.seq (.region 2 r7 false) .ret) .skip)) (.seq (.region 3 r11 false) (.seq (.region 4 r13 false) (.seq (.region 5 r15 false) (.seq (.region 6 r17 false) .ret)))))
theorem body : Tryz.f26.body = some c0 := by kernel_rfl
section
variable {base : Nat} {W0 : World} {β0 : Bt}
def f (k : Nat) (x0 : (Option HA)) (x1 : Int) (x2 : (List UInt8)) (S : HS) : Option ((Bool) × HS) :=
 (Option.bind (pair_Rel_int_string_Has.f k x0 x1 x2 S) fun p1 =>
 (if (!p1.1) = true then
 some (false,p1.2) else
 (Option.bind (x0) fun p3 =>
 (Option.bind (HS.ldM p1.2 (HA.fld p3 2)) fun p4 =>
 (Option.bind (pair_take_int_string.f k p4 x1 x2 p1.2) fun p5 =>
 (Option.bind (x0) fun p6 =>
 (Option.bind (HS.ldM p5.2 (HA.fld p6 3)) fun p7 =>
 (Option.bind (pair_take_string_int.f k p7 x2 x1 p5.2) fun p8 =>
 (Option.bind (x0) fun p9 =>
 (Option.bind (HS.ldI p8.2 .i64 (HA.fld p9 1)) fun p10 =>
 (Option.bind (x0) fun p11 =>
 (Option.bind (HS.sets p8.2 (HA.fld p11 1) [(.int .i64 (w64 (p10 - 1)))]) fun p12 =>
 some (true,p12)))))))))))))
theorem snd {k : Nat} {x0 : (Option HA)} {x1 : Int} {x2 : (List UInt8)} {S : HS}  {p : (Bool) × HS} (h : f k x0 x1 x2 S = some p) : HCall Tryz.prog base W0 β0 26 [(.ptr x0),(.int .i64 x1),(.str x2)] S (fun v S1 => v = (.bool p.1) ∧ S1 = p.2) := by
 unfold f at h
 refine HCall.of_run at_.at_ body ?_
 show HRun Tryz.prog base W0 β0 26 none [.code c0] ⟨[(.ptr x0),(.int .i64 x1),(.str x2),τ,τ,τ,τ,τ,τ,τ,τ,τ,τ,τ,τ,τ,τ,τ,τ,τ,τ,τ,τ,τ,τ,τ,τ,τ,τ,τ,τ,τ,τ],[]⟩ S _
 refine qQ rfl (qR rfl rfl (qS 6 rfl (ok_assign · (.bool _)) (rE ?_)))
 try dsimp only [w0,w1,w2,w3]
 obtain ⟨p1,hp1,h⟩ := bindo h
 refine qQ rfl (qQ rfl (qR rfl rfl (qS 7 rfl (oM · rfl) (qS 8 rfl (oM · rfl) (qS 9 rfl (oM · rfl) (q_call (dst := some 10) rfl (.func _) (.cons (.tmp rfl) (.cons (.tmp rfl) (.cons (.tmp rfl) Evs.nil))) (HInv.static pair_Rel_int_string_Has.at_ pair_Rel_int_string_Has.body (pair_Rel_int_string_Has.snd  hp1)) ?_))))))
 rintro _ _ ⟨rfl,rfl⟩
 try dsimp only [w0,w1,w2,w3]
 refine qS 11 rfl (ok_not · (.tmp rfl)) (rE ?_)
 try dsimp only [w0,w1,w2,w3]
 rcases ifc h with ⟨hc2,h⟩ | ⟨hc2,h⟩
 ·refine q_cond_t rfl (.tmp rfl) hc2 (qQ rfl (qR rfl rfl (qS 6 rfl (ok_assign · (.bool _)) (rE ?_))))
  try dsimp only [w0,w1,w2,w3]
  cases h
  exact q_ret rfl at_.at_ rfl (res1 rfl rfl) ⟨rfl,rfl⟩
 ·obtain ⟨p3,hp3,h⟩ := bindo h
  obtain ⟨p4,hp4,h⟩ := bindo h
  refine q_cond_f rfl (.tmp rfl) (bfalse hc2) (q_skipc rfl (qQ rfl (qR rfl rfl (qS 12 rfl (oM · rfl) (qS 13 rfl (oN · rfl hp3) (qS 14 rfl (oF · fi81_2 (by decide) rfl rfl) (qS 15 rfl (oL · sc78 rfl rfl (ldM_out hp4)) ?_)))))))
  try dsimp only [w0,w1,w2,w3]
  obtain ⟨p5,hp5,h⟩ := bindo h
  refine qS 16 rfl (oM · rfl) (qS 17 rfl (oM · rfl) (q_call (dst := some 18) rfl (.func _) (.cons (.tmp rfl) (.cons (.tmp rfl) (.cons (.tmp rfl) Evs.nil))) (HInv.static pair_take_int_string.at_ pair_take_int_string.body (pair_take_int_string.snd  hp5)) ?_))
  rintro _ _ ⟨rfl,rfl⟩
  refine rE ?_
  try dsimp only [w0,w1,w2,w3]
  obtain ⟨p6,hp6,h⟩ := bindo h
  obtain ⟨p7,hp7,h⟩ := bindo h
  refine qQ rfl (qR rfl rfl (qS 19 rfl (oM · rfl) (qS 20 rfl (oN · rfl hp6) (qS 21 rfl (oF · fi81_3 (by decide) rfl rfl) (qS 22 rfl (oL · sc79 rfl rfl (ldM_out hp7)) ?_)))))
  try dsimp only [w0,w1,w2,w3]
  obtain ⟨p8,hp8,h⟩ := bindo h
  refine qS 23 rfl (oM · rfl) (qS 24 rfl (oM · rfl) (q_call (dst := some 25) rfl (.func _) (.cons (.tmp rfl) (.cons (.tmp rfl) (.cons (.tmp rfl) Evs.nil))) (HInv.static pair_take_string_int.at_ pair_take_string_int.body (pair_take_string_int.snd  hp8)) ?_))
  rintro _ _ ⟨rfl,rfl⟩
  refine rE ?_
  try dsimp only [w0,w1,w2,w3]
  obtain ⟨p9,hp9,h⟩ := bindo h
  obtain ⟨p10,hp10,h⟩ := bindo h
  refine qQ rfl (qR rfl rfl (qS 26 rfl (oM · rfl) (qS 27 rfl (oN · rfl hp9) (qS 28 rfl (oF · fi81_1 (by decide) rfl rfl) (qS 29 rfl (oL · sc3 rfl rfl (ldI_out hp10)) ?_)))))
  try dsimp only [w0,w1,w2,w3]
  obtain ⟨p11,hp11,h⟩ := bindo h
  obtain ⟨p12,hp12,h⟩ := bindo h
  refine qS 30 rfl (oC · rfl rfl) (qS 31 rfl (oN · rfl hp11) (qS 32 rfl (oF · fi81_1 (by decide) rfl rfl) (qN rfl (ok_store_s (v := (.int .i64 (w64 (p10 - 1)))) · sz3 (.tmp rfl) rfl (.tmp rfl) rfl hp12) (rE ?_))))
  try dsimp only [w0,w1,w2,w3]
  refine qQ rfl (qR rfl rfl (qS 6 rfl (ok_assign · (.bool _)) (rE ?_)))
  try dsimp only [w0,w1,w2,w3]
  cases h
  exact q_ret rfl at_.at_ rfl (res1 rfl rfl) ⟨rfl,rfl⟩
end
end pair_Rel_int_string_Remove
namespace wish_Lists_Remove
theorem at_ : FnAt Tryz.prog 7 Tryz.f7 := ⟨Tryz.func7,by kernel_rfl⟩
noncomputable def d0 := (Tryz.f7.body).getD .skip
noncomputable def r1 := kR (kA d0)
noncomputable def r4 := kR (kA (kA (kB d0)))
noncomputable def r7 := kR (kA (kA (kB (kA (kB d0)))))
noncomputable def r11 := kR (kA (kB (kB d0)))
noncomputable def r13 := kR (kA (kB (kB (kB d0))))
noncomputable def r15 := kR (kA (kB (kB (kB (kB d0)))))
noncomputable def c0 : Code := .seq (.region 0 r1 false) (.seq (.seq (.region 1 r4 false) (.cond (.tmp 9) (.seq (.region 2 r7 false) .ret) .skip)) (.seq (.region 3 r11 false) (.seq (.region 4 r13 false) (.seq (.region 5 r15 false) .ret))))
theorem body : Tryz.f7.body = some c0 := by kernel_rfl
section
variable {base : Nat} {W0 : World} {β0 : Bt}
def f (k : Nat) (x0 : (Option HA)) (x1 : Int) (x2 : (List UInt8)) (S : HS) : Option ((Bool) × HS) :=
 (if (Option.isNone x0) = true then
 some (false,S) else
 (Option.bind (fold_Text.f k x2 S) fun p2 =>
 (Option.bind (x0) fun p3 =>
 (Option.bind (HS.ldM p2.2 (HA.fld p3 1)) fun p4 =>
 (Option.bind (HS.mdel p2.2 p4 (.agg [(.int .i64 x1),(.str p2.1)])) fun p5 =>
 (Option.bind (x0) fun p6 =>
 (Option.bind (HS.ldP p5 (HA.fld p6 0)) fun p7 =>
 (Option.bind (pair_Rel_int_string_Remove.f k p7 x1 p2.1 p5) fun p8 =>
 some (p8.1,p8.2)))))))))
theorem snd {k : Nat} {x0 : (Option HA)} {x1 : Int} {x2 : (List UInt8)} {S : HS}  {p : (Bool) × HS} (h : f k x0 x1 x2 S = some p) : HCall Tryz.prog base W0 β0 7 [(.ptr x0),(.int .i64 x1),(.str x2)] S (fun v S1 => v = (.bool p.1) ∧ S1 = p.2) := by
 unfold f at h
 refine HCall.of_run at_.at_ body ?_
 show HRun Tryz.prog base W0 β0 7 none [.code c0] ⟨[(.ptr x0),(.int .i64 x1),(.str x2),τ,τ,τ,τ,τ,τ,τ,τ,τ,τ,τ,τ,τ,τ,τ,τ,τ,τ,τ,τ,τ,τ,τ],[]⟩ S _
 refine qQ rfl (qR rfl rfl (qS 6 rfl (ok_assign · (.bool _)) (rE ?_)))
 try dsimp only [w0,w1,w2,w3]
 refine qQ rfl (qQ rfl (qR rfl rfl (qS 8 rfl (oM · rfl) (qS 9 rfl (ok_nil_ptr · tu25 (.tmp rfl) (.inl ⟨rfl,rfl⟩)) (rE ?_)))))
 try dsimp only [w0,w1,w2,w3]
 rcases ifc h with ⟨hc1,h⟩ | ⟨hc1,h⟩
 ·refine q_cond_t rfl (.tmp rfl) hc1 (qQ rfl (qR rfl rfl (qS 6 rfl (ok_assign · (.bool _)) (rE ?_))))
  try dsimp only [w0,w1,w2,w3]
  cases h
  exact q_ret rfl at_.at_ rfl (res1 rfl rfl) ⟨rfl,rfl⟩
 ·obtain ⟨p2,hp2,h⟩ := bindo h
  refine q_cond_f rfl (.tmp rfl) (bfalse hc1) (q_skipc rfl (qQ rfl (qR rfl rfl (qS 10 rfl (oM · rfl) (q_call (dst := some 11) rfl (.func _) (.cons (.tmp rfl) Evs.nil) (HInv.static fold_Text.at_ fold_Text.body (fold_Text.snd  hp2)) ?_)))))
  rintro _ _ ⟨rfl,rfl⟩
  refine qS 7 rfl (oA · rfl) (rE ?_)
  try dsimp only [w0,w1,w2,w3]
  obtain ⟨p3,hp3,h⟩ := bindo h
  obtain ⟨p4,hp4,h⟩ := bindo h
  refine qQ rfl (qR rfl rfl (qS 12 rfl (oM · rfl) (qS 13 rfl (oN · rfl hp3) (qS 14 rfl (oF · fi60_1 (by decide) rfl rfl) (qS 15 rfl (oL · sc58 rfl rfl (ldM_out hp4)) ?_)))))
  try dsimp only [w0,w1,w2,w3]
  obtain ⟨p5,hp5,h⟩ := bindo h
  refine qS 16 rfl (oM · rfl) (qS 17 rfl (oM · rfl) (qS 18 rfl (ok_build (is := [0,1]) (xs := [(.tmp 16),(.tmp 17)]) (r := [(.int .i64 x1),(.str p2.1)]) st63 · rfl rfl (.cons (.tmp rfl) (.cons (.tmp rfl) Evs.nil)) rfl) (qN rfl (ok_delete · rfl tu58 (keyStruct sk63 rfl) (.tmp rfl) (.tmp rfl) hp5) (rE ?_))))
  try dsimp only [w0,w1,w2,w3]
  obtain ⟨p6,hp6,h⟩ := bindo h
  obtain ⟨p7,hp7,h⟩ := bindo h
  refine qQ rfl (qR rfl rfl (qS 19 rfl (oM · rfl) (qS 20 rfl (oN · rfl hp6) (qS 21 rfl (oF · fi60_0 (by decide) rfl rfl) (qS 22 rfl (oL · sc55 rfl rfl (ldP_out hp7)) ?_)))))
  try dsimp only [w0,w1,w2,w3]
  obtain ⟨p8,hp8,h⟩ := bindo h
  refine qS 23 rfl (oM · rfl) (qS 24 rfl (oM · rfl) (q_call (dst := some 25) rfl (.func _) (.cons (.tmp rfl) (.cons (.tmp rfl) (.cons (.tmp rfl) Evs.nil))) (HInv.static pair_Rel_int_string_Remove.at_ pair_Rel_int_string_Remove.body (pair_Rel_int_string_Remove.snd  hp8)) ?_))
  rintro _ _ ⟨rfl,rfl⟩
  refine qS 6 rfl (oA · rfl) (rE ?_)
  try dsimp only [w0,w1,w2,w3]
  cases h
  exact q_ret rfl at_.at_ rfl (res1 rfl rfl) ⟨rfl,rfl⟩
end
end wish_Lists_Remove
namespace rollcallref01_Byte
theorem at_ : FnAt Tryz.prog 67 Tryz.f67 := ⟨Tryz.func67,by kernel_rfl⟩
noncomputable def d0 := (Tryz.f67.body).getD .skip
noncomputable def r1 := kR (kA d0)
noncomputable def r3 := kR (kA (kB d0))
noncomputable def r5 := kR (kA (kB (kB d0)))
noncomputable def d6 := kB (kB (kB d0))
noncomputable def r8 := kR (kA (kA d6))
noncomputable def d10 := kA (kB (kA d6))
noncomputable def r13 := kR (kA (kA (kA d10)))
noncomputable def r20 := kR (kA (kA (kA (kB (kA d10)))))
noncomputable def r23 := kR (kA (kA (kB (kA (kA (kB (kA d10)))))))
noncomputable def r26 := kR (kB (kB (kA d10)))
noncomputable def r28 := kR (kA (kB d6))
noncomputable def c27 : Code := .seq (.region 8 r28 false) .ret
noncomputable def c11 : Code := .seq (.seq (.region 4 r13 false) (.cond (.tmp 9) .skip (.exit 0))) (.seq (.block 1 (.seq (.region 6 r20 false) (.cond (.tmp 16) (.seq (.region 7 r23 false) .ret) .skip))) (.region 5 r26 false))
noncomputable def c0 : Code := .seq (.region 0 r1 false) (.seq (.region 1 r3 false) (.seq (.region 2 r5 false) (.seq (.seq (.region 3 r8 false) (.block 0 (.loop c11))) c27)))
theorem body : Tryz.f67.body = some c0 := by kernel_rfl
section
variable {base : Nat} {W0 : World} {β0 : Bt}
def L0 (k : Nat) : Nat → Int → (List UInt8) → (List UInt8) → Int → Option (Int)
 | 0,_,_,_,_ => none
 | n + 1,y0,y3,y4,y5 =>
  (if y5 < (List.length y3 : Int) then
  (Option.bind (sat y3 y5) fun p2 =>
  (if (UInt8.toNat p2 : Int) = y0 then
  (Option.bind (sat y4 y5) fun p4 =>
  some (UInt8.toNat p4 : Int)) else
  (L0 k n) y0 y3 y4 (w64 (y5 + 1)))) else
  some y0)
theorem L0_snd {k : Nat}  : ∀ {n : Nat} ⦃y0 : Int⦄ ⦃y3 : (List UInt8)⦄ ⦃y4 : (List UInt8)⦄ ⦃y5 : Int⦄ ⦃S : HS⦄ ⦃p : Int⦄ ⦃Gb Gc Gg Gh Gi Gj Gk Gl Gm Gn Go Gp Gq Gr Gs Gt Gu : HV⦄,L0 k n y0 y3 y4 y5 = some p → HRun Tryz.prog base W0 β0 67 none [.inLoop c11,.inBlock 0,.code c27] ⟨[(.int .u8 y0),Gb,Gc,(.str y3),(.str y4),(.int .i64 y5),Gg,Gh,Gi,Gj,Gk,Gl,Gm,Gn,Go,Gp,Gq,Gr,Gs,Gt,Gu],[]⟩ S (fun v S1 => v = (.int .u8 p) ∧ S1 = S) := by
 intro n
 induction n with
 | zero => intro _ _ _ _ _ _ _ _ _ _ _ _ _ _ _ _ _ _ _ _ _ _ _ h; cases h
 | succ n ih =>
  intro y0 y3 y4 y5 S p Gb Gc Gg Gh Gi Gj Gk Gl Gm Gn Go Gp Gq Gr Gs Gt Gu h
  simp only [L0] at h
  refine hr_inLoop (qQ rfl (qQ rfl (qR rfl rfl (qS 6 rfl (oM · rfl) (qS 7 rfl (oM · rfl) (qS 8 rfl (ok_len_str · rfl tu9 (.tmp rfl)) (qS 9 rfl (oB · rfl rfl rfl) (rE ?_))))))))
  try dsimp only [w0,w1,w2,w3]
  rcases ifc h with ⟨hc1,h⟩ | ⟨hc1,h⟩
  ·obtain ⟨p2,hp2,h⟩ := bindo h
   refine q_cond_t rfl (.tmp rfl) (decide_eq_true hc1) (q_skipc rfl (qQ rfl (q_block rfl (qQ rfl (qR rfl rfl (qS 12 rfl (oM · rfl) (qS 13 rfl (oM · rfl) (qS 14 rfl (ok_index_s · tu9 (.tmp rfl) (.tmp rfl) hp2) (qS 15 rfl (oM · rfl) ?_)))))))))
   try dsimp only [w0,w1,w2,w3]
   refine qS 16 rfl (oB · rfl rfl rfl) (rE ?_)
   try dsimp only [w0,w1,w2,w3]
   rcases ifc h with ⟨hc3,h⟩ | ⟨hc3,h⟩
   ·obtain ⟨p4,hp4,h⟩ := bindo h
    refine q_cond_t rfl (.tmp rfl) (decide_eq_true hc3) (qQ rfl (qR rfl rfl (qS 17 rfl (oM · rfl) (qS 18 rfl (oM · rfl) (qS 19 rfl (ok_index_s · tu9 (.tmp rfl) (.tmp rfl) hp4) (qS 2 rfl (oA · rfl) (rE ?_)))))))
    try dsimp only [w0,w1,w2,w3]
    cases h
    exact q_ret rfl at_.at_ rfl (res1 rfl rfl) ⟨rfl,rfl⟩
   ·refine q_cond_f rfl (.tmp rfl) (decide_eq_false hc3) (q_skipc rfl (hr_inBlock (qR rfl rfl (qS 10 rfl (oM · rfl) (qS 11 rfl (oC · rfl rfl) (qS 5 rfl (oA · rfl) (rE ?_)))))))
    try dsimp only [w0,w1,w2,w3]
    try dsimp only [w0,w1,w2,w3]
    exact ih h
  ·refine q_cond_f rfl (.tmp rfl) (decide_eq_false hc1) (q_exit rfl rfl (qQ rfl (qR rfl rfl (qS 20 rfl (oM · rfl) (qS 2 rfl (oA · rfl) (rE ?_))))))
   try dsimp only [w0,w1,w2,w3]
   cases h
   exact q_ret rfl at_.at_ rfl (res1 rfl rfl) ⟨rfl,rfl⟩
def f (k : Nat) (x0 : Int) : Option (Int) :=
 L0 k k x0 ([65,66,67,68,69,70,71,72,73,74,75,76,77,78,79,80,81,82,83,84,85,86,87,88,89,90,91,93,92,126] : List UInt8) ([97,98,99,100,101,102,103,104,105,106,107,108,109,110,111,112,113,114,115,116,117,118,119,120,121,122,123,125,124,94] : List UInt8) 0
theorem snd {k : Nat} {x0 : Int} {S : HS}  {p : Int} (h : f k x0 = some p) : HCall Tryz.prog base W0 β0 67 [(.int .u8 x0)] S (fun v S1 => v = (.int .u8 p) ∧ S1 = S) := by
 unfold f at h
 refine HCall.of_run at_.at_ body ?_
 show HRun Tryz.prog base W0 β0 67 none [.code c0] ⟨[(.int .u8 x0),τ,τ,τ,τ,τ,τ,τ,τ,τ,τ,τ,τ,τ,τ,τ,τ,τ,τ,τ,τ],[]⟩ S _
 refine qQ rfl (qR rfl rfl (qS 2 rfl (ok_assign · (.int _ _)) (rE ?_)))
 try dsimp only [w0,w1,w2,w3]
 refine qQ rfl (qR rfl rfl (qS 3 rfl (ok_assign · (.str _)) (rE ?_)))
 try dsimp only [w0,w1,w2,w3]
 refine qQ rfl (qR rfl rfl (qS 4 rfl (ok_assign · (.str _)) (rE ?_)))
 try dsimp only [w0,w1,w2,w3]
 refine qQ rfl (qQ rfl (qR rfl rfl (qS 5 rfl (ok_assign · (.int _ _)) (rE ?_))))
 try dsimp only [w0,w1,w2,w3]
 refine q_block rfl (q_loop rfl ?_)
 try dsimp only [w0,w1,w2,w3]
 exact L0_snd  h
end
end rollcallref01_Byte
namespace rollcallref01_Text
theorem at_ : FnAt Tryz.prog 49 Tryz.f49 := ⟨Tryz.func49,by kernel_rfl⟩
noncomputable def d0 := (Tryz.f49.body).getD .skip
noncomputable def r1 := kR (kA d0)
noncomputable def r3 := kR (kA (kB d0))
noncomputable def d5 := kA (kB (kB d0))
noncomputable def r6 := kR (kA d5)
noncomputable def r11 := kR (kA (kA (kA (kA (kB d5)))))
noncomputable def r17 := kR (kA (kA (kB (kA (kA (kB d5))))))
noncomputable def r18 := kR (kB (kB (kA (kA (kB d5)))))
noncomputable def r20 := kR (kA (kB (kB (kB d0))))
noncomputable def c19 : Code := .seq (.region 6 r20 false) .ret
noncomputable def c9 : Code := .seq (.seq (.region 3 r11 false) (.cond (.tmp 8) .skip (.exit 0))) (.seq (.block 1 (.region 5 r17 false)) (.region 4 r18 false))
noncomputable def c0 : Code := .seq (.region 0 r1 false) (.seq (.region 1 r3 false) (.seq (.seq (.region 2 r6 false) (.block 0 (.loop c9))) c19))
theorem body : Tryz.f49.body = some c0 := by kernel_rfl
section
variable {base : Nat} {W0 : World} {β0 : Bt}
def L0 (k : Nat) : Nat → (List UInt8) → (List UInt8) → Int → HS → Option (((List UInt8)) × HS)
 | 0,_,_,_,_ => none
 | n + 1,y0,y3,y4,S =>
  (if y4 < (List.length y0 : Int) then
  (Option.bind (sat y0 y4) fun p2 =>
  (Option.bind (rollcallref01_Byte.f k (UInt8.toNat p2 : Int)) fun p3 =>
  (letv (HS.lit S [[(.int .u8 p3)]] 1) fun p4 =>
  (Option.bind (HS.text (p4.2) (p4.1)) fun p5 =>
  (if List.length y3 + List.length p5 ≤ 9223372036854775807 then
  (L0 k n) y0 (y3 ++ p5) (w64 (y4 + 1)) (p4.2) else none))))) else
  some (y3,S))
theorem L0_snd {k : Nat}  : ∀ {n : Nat} ⦃y0 : (List UInt8)⦄ ⦃y3 : (List UInt8)⦄ ⦃y4 : Int⦄ ⦃S : HS⦄ ⦃p : ((List UInt8)) × HS⦄ ⦃Gb Gc Gf Gg Gh Gi Gj Gk Gl Gm Gn Go Gp Gq Gr Gs Gt : HV⦄,L0 k n y0 y3 y4 S = some p → HRun Tryz.prog base W0 β0 49 none [.inLoop c9,.inBlock 0,.code c19] ⟨[(.str y0),Gb,Gc,(.str y3),(.int .i64 y4),Gf,Gg,Gh,Gi,Gj,Gk,Gl,Gm,Gn,Go,Gp,Gq,Gr,Gs,Gt],[]⟩ S (fun v S1 => v = (.str p.1) ∧ S1 = p.2) := by
 intro n
 induction n with
 | zero => intro _ _ _ _ _ _ _ _ _ _ _ _ _ _ _ _ _ _ _ _ _ _ h; cases h
 | succ n ih =>
  intro y0 y3 y4 S p Gb Gc Gf Gg Gh Gi Gj Gk Gl Gm Gn Go Gp Gq Gr Gs Gt h
  simp only [L0] at h
  refine hr_inLoop (qQ rfl (qQ rfl (qR rfl rfl (qS 5 rfl (oM · rfl) (qS 6 rfl (oM · rfl) (qS 7 rfl (ok_len_str · rfl tu9 (.tmp rfl)) (qS 8 rfl (oB · rfl rfl rfl) (rE ?_))))))))
  try dsimp only [w0,w1,w2,w3]
  rcases ifc h with ⟨hc1,h⟩ | ⟨hc1,h⟩
  ·obtain ⟨p2,hp2,h⟩ := bindo h
   refine q_cond_t rfl (.tmp rfl) (decide_eq_true hc1) (q_skipc rfl (qQ rfl (q_block rfl (qR rfl rfl (qS 11 rfl (oM · rfl) (qS 12 rfl (oM · rfl) (qS 13 rfl (oM · rfl) (qS 14 rfl (ok_index_s · tu9 (.tmp rfl) (.tmp rfl) hp2) ?_))))))))
   try dsimp only [w0,w1,w2,w3]
   obtain ⟨p3,hp3,h⟩ := bindo h
   refine q_call (dst := some 15) rfl (.func _) (.cons (.tmp rfl) Evs.nil) (HInv.static rollcallref01_Byte.at_ rollcallref01_Byte.body (rollcallref01_Byte.snd  hp3)) ?_
   rintro _ _ ⟨rfl,rfl⟩
   obtain ⟨p4,hp4,h⟩ := leto h
   obtain ⟨p5,hp5,h⟩ := bindo h
   obtain ⟨hg6,h⟩ := gd h
   refine qS 16 rfl (ok_buildSlice_s (xs := [(.tmp 15)]) el82 · rfl rfl (by decide) (.cons (.tmp rfl) Evs.nil) rfl rfl hp4) (qS 17 rfl (ok_str_of_bytes (s := (p4.1)) · tu82 tu5 tu9 (.tmp rfl) hp5) (qS 18 rfl (ok_sadd · (.tmp rfl) (.tmp rfl) hg6) ?_))
   try dsimp only [w0,w1,w2,w3]
   refine qS 3 rfl (oA · rfl) (rE ?_)
   try dsimp only [w0,w1,w2,w3]
   refine hr_inBlock (qR rfl rfl (qS 9 rfl (oM · rfl) (qS 10 rfl (oC · rfl rfl) (qS 4 rfl (oA · rfl) (rE ?_)))))
   try dsimp only [w0,w1,w2,w3]
   try dsimp only [w0,w1,w2,w3]
   exact ih h
  ·refine q_cond_f rfl (.tmp rfl) (decide_eq_false hc1) (q_exit rfl rfl (qQ rfl (qR rfl rfl (qS 19 rfl (oM · rfl) (qS 2 rfl (oA · rfl) (rE ?_))))))
   try dsimp only [w0,w1,w2,w3]
   cases h
   exact q_ret rfl at_.at_ rfl (res1 rfl rfl) ⟨rfl,rfl⟩
def f (k : Nat) (x0 : (List UInt8)) (S : HS) : Option (((List UInt8)) × HS) :=
 L0 k k x0 ([] : List UInt8) 0 S
theorem snd {k : Nat} {x0 : (List UInt8)} {S : HS}  {p : ((List UInt8)) × HS} (h : f k x0 S = some p) : HCall Tryz.prog base W0 β0 49 [(.str x0)] S (fun v S1 => v = (.str p.1) ∧ S1 = p.2) := by
 unfold f at h
 refine HCall.of_run at_.at_ body ?_
 show HRun Tryz.prog base W0 β0 49 none [.code c0] ⟨[(.str x0),τ,τ,τ,τ,τ,τ,τ,τ,τ,τ,τ,τ,τ,τ,τ,τ,τ,τ,τ],[]⟩ S _
 refine qQ rfl (qR rfl rfl (qS 2 rfl (ok_assign · (.str _)) (rE ?_)))
 try dsimp only [w0,w1,w2,w3]
 refine qQ rfl (qR rfl rfl (qS 3 rfl (ok_assign · (.str _)) (rE ?_)))
 try dsimp only [w0,w1,w2,w3]
 refine qQ rfl (qQ rfl (qR rfl rfl (qS 4 rfl (ok_assign · (.int _ _)) (rE ?_))))
 try dsimp only [w0,w1,w2,w3]
 refine q_block rfl (q_loop rfl ?_)
 try dsimp only [w0,w1,w2,w3]
 exact L0_snd  h
end
end rollcallref01_Text
namespace rollcallref01_Same
theorem at_ : FnAt Tryz.prog 32 Tryz.f32 := ⟨Tryz.func32,by kernel_rfl⟩
noncomputable def d0 := (Tryz.f32.body).getD .skip
noncomputable def r1 := kR (kA d0)
noncomputable def r3 := kR (kA (kB d0))
noncomputable def c0 : Code := .seq (.region 0 r1 false) (.seq (.region 1 r3 false) .ret)
theorem body : Tryz.f32.body = some c0 := by kernel_rfl
section
variable {base : Nat} {W0 : World} {β0 : Bt}
def f (k : Nat) (x0 : (List UInt8)) (x1 : (List UInt8)) (S : HS) : Option ((Bool) × HS) :=
 (Option.bind (rollcallref01_Text.f k x0 S) fun p1 =>
 (Option.bind (rollcallref01_Text.f k x1 p1.2) fun p2 =>
 some ((decide (p1.1 = p2.1)),p2.2)))
theorem snd {k : Nat} {x0 : (List UInt8)} {x1 : (List UInt8)} {S : HS}  {p : (Bool) × HS} (h : f k x0 x1 S = some p) : HCall Tryz.prog base W0 β0 32 [(.str x0),(.str x1)] S (fun v S1 => v = (.bool p.1) ∧ S1 = p.2) := by
 unfold f at h
 refine HCall.of_run at_.at_ body ?_
 show HRun Tryz.prog base W0 β0 32 none [.code c0] ⟨[(.str x0),(.str x1),τ,τ,τ,τ,τ,τ,τ,τ],[]⟩ S _
 refine qQ rfl (qR rfl rfl (qS 4 rfl (ok_assign · (.bool _)) (rE ?_)))
 try dsimp only [w0,w1,w2,w3]
 obtain ⟨p1,hp1,h⟩ := bindo h
 refine qQ rfl (qR rfl rfl (qS 5 rfl (oM · rfl) (q_call (dst := some 6) rfl (.func _) (.cons (.tmp rfl) Evs.nil) (HInv.static rollcallref01_Text.at_ rollcallref01_Text.body (rollcallref01_Text.snd  hp1)) ?_)))
 rintro _ _ ⟨rfl,rfl⟩
 obtain ⟨p2,hp2,h⟩ := bindo h
 refine qS 7 rfl (oM · rfl) (q_call (dst := some 8) rfl (.func _) (.cons (.tmp rfl) Evs.nil) (HInv.static rollcallref01_Text.at_ rollcallref01_Text.body (rollcallref01_Text.snd  hp2)) ?_)
 rintro _ _ ⟨rfl,rfl⟩
 try dsimp only [w0,w1,w2,w3]
 refine qS 9 rfl (ok_sbin · (.tmp rfl) (.tmp rfl) rfl) (qS 4 rfl (oA · rfl) (rE ?_))
 try dsimp only [w0,w1,w2,w3]
 cases h
 exact q_ret rfl at_.at_ rfl (res1 rfl rfl) ⟨rfl,rfl⟩
end
end rollcallref01_Same
namespace rollcallref21_Lists_At
theorem at_ : FnAt Tryz.prog 17 Tryz.f17 := ⟨Tryz.func17,by kernel_rfl⟩
noncomputable def d0 := (Tryz.f17.body).getD .skip
noncomputable def r1 := kR (kA d0)
noncomputable def r4 := kR (kA (kA (kB d0)))
noncomputable def d5 := kB (kA (kB d0))
noncomputable def r9 := kR (kA (kA (kA (kA d5))))
noncomputable def d15 := kA (kA (kB (kA (kA d5))))
noncomputable def r16 := kR (kA d15)
noncomputable def r19 := kR (kA (kA (kB d15)))
noncomputable def r22 := kR (kB (kB (kA (kA d5))))
noncomputable def r24 := kR (kA (kB (kB d0)))
noncomputable def c23 : Code := .seq (.region 6 r24 false) .ret
noncomputable def c22 : Code := .region 3 r22 false
noncomputable def c17 : Code := .cond (.tmp 38) (.seq (.region 5 r19 false) .ret) .skip
noncomputable def c7 : Code := .seq (.seq (.region 2 r9 false) (.cond (.tmp 14) .skip (.exit 0))) (.seq (.block 1 (.seq (.region 4 r16 false) c17)) c22)
noncomputable def c0 : Code := .seq (.region 0 r1 false) (.seq (.seq (.region 1 r4 false) (.block 0 (.loop c7))) c23)
theorem body : Tryz.f17.body = some c0 := by kernel_rfl
section
variable {base : Nat} {W0 : World} {β0 : Bt}
def J1 (k : Nat) (rec0 : (Option HA) → Int → (List UInt8) → Int → HS → Option ((Int) × HS)) (y0 : (Option HA)) (y1 : Int) (y2 : (List UInt8)) (y7 : Int) (y38 : Bool) (S : HS) : Option ((Int) × HS) :=
 (if y38 = true then
 some (y7,S) else
 rec0 y0 y1 y2 (w64 (y7 + 1)) S)
theorem J1_snd {k : Nat} {rec0 : (Option HA) → Int → (List UInt8) → Int → HS → Option ((Int) × HS)} (hrec0 : ∀ ⦃y0 : (Option HA)⦄ ⦃y1 : Int⦄ ⦃y2 : (List UInt8)⦄ ⦃y7 : Int⦄ ⦃S : HS⦄ ⦃p : (Int) × HS⦄ ⦃Gd Ge Gf Gg Gi Gj Gk Gl Gm Gn Go Gp Gq Gr Gs Gt Gu Gv Gw Gx Gy Gz Ka Kb Kc Kd Ke Kf Kg Kh Ki Kj Kk Kl Km Kn : HV⦄,rec0 y0 y1 y2 y7 S = some p → HRun Tryz.prog base W0 β0 17 none [.inLoop c7,.inBlock 0,.code c23] ⟨[(.ptr y0),(.int .i64 y1),(.str y2),Gd,Ge,Gf,Gg,(.int .i64 y7),Gi,Gj,Gk,Gl,Gm,Gn,Go,Gp,Gq,Gr,Gs,Gt,Gu,Gv,Gw,Gx,Gy,Gz,Ka,Kb,Kc,Kd,Ke,Kf,Kg,Kh,Ki,Kj,Kk,Kl,Km,Kn],[]⟩ S (fun v S1 => v = (.int .i64 p.1) ∧ S1 = p.2)) {y0 : (Option HA)} {y1 : Int} {y2 : (List UInt8)} {y7 : Int} {y38 : Bool} {S : HS} {p : (Int) × HS} {Gd Ge Gf Gg Gi Gj Gk Gl Gm Gn Go Gp Gq Gr Gs Gt Gu Gv Gw Gx Gy Gz Ka Kb Kc Kd Ke Kf Kg Kh Ki Kj Kk Kl Kn : HV} (h : J1 k rec0 y0 y1 y2 y7 y38 S = some p) : HRun Tryz.prog base W0 β0 17 none [.code c17,.inBlock 1,.code c22,.inLoop c7,.inBlock 0,.code c23] ⟨[(.ptr y0),(.int .i64 y1),(.str y2),Gd,Ge,Gf,Gg,(.int .i64 y7),Gi,Gj,Gk,Gl,Gm,Gn,Go,Gp,Gq,Gr,Gs,Gt,Gu,Gv,Gw,Gx,Gy,Gz,Ka,Kb,Kc,Kd,Ke,Kf,Kg,Kh,Ki,Kj,Kk,Kl,(.bool y38),Kn],[]⟩ S (fun v S1 => v = (.int .i64 p.1) ∧ S1 = p.2) := by
 unfold J1 at h
 rcases ifc h with ⟨hc14,h⟩ | ⟨hc14,h⟩
 ·refine q_cond_t rfl (.tmp rfl) hc14 (qQ rfl (qR rfl rfl (qS 39 rfl (oM · rfl) (qS 6 rfl (oA · rfl) (rE ?_)))))
  try dsimp only [w0,w1,w2,w3]
  cases h
  exact q_ret rfl at_.at_ rfl (res1 rfl rfl) ⟨rfl,rfl⟩
 ·refine q_cond_f rfl (.tmp rfl) (bfalse hc14) (q_skipc rfl (hr_inBlock (qR rfl rfl (qS 15 rfl (oM · rfl) (qS 16 rfl (oC · rfl rfl) (qS 7 rfl (oA · rfl) (rE ?_)))))))
  try dsimp only [w0,w1,w2,w3]
  try dsimp only [w0,w1,w2,w3]
  exact hrec0 h
def L0 (k : Nat) : Nat → (Option HA) → Int → (List UInt8) → Int → HS → Option ((Int) × HS)
 | 0,_,_,_,_,_ => none
 | n + 1,y0,y1,y2,y7,S =>
  (Option.bind (y0) fun p1 =>
  (Option.bind (HS.ldSl S (HA.fld p1 1)) fun p2 =>
  (if y7 < (Sl.len p2 : Int) then
  (Option.bind (y0) fun p4 =>
  (Option.bind (HS.ldSl S (HA.fld p4 1)) fun p5 =>
  (Option.bind (HS.idx S p5 y7 2) fun p6 =>
  (Option.bind (HS.ldI S .i64 (HA.fld p6 0)) fun p7 =>
  (if p7 = y1 then
  (Option.bind (y0) fun p9 =>
  (Option.bind (HS.ldSl S (HA.fld p9 1)) fun p10 =>
  (Option.bind (HS.idx S p10 y7 2) fun p11 =>
  (Option.bind (HS.ldS S (HA.fld p11 1)) fun p12 =>
  (Option.bind (rollcallref01_Same.f k p12 y2 S) fun p13 =>
  J1 k (L0 k n) y0 y1 y2 y7 p13.1 p13.2))))) else
  J1 k (L0 k n) y0 y1 y2 y7 false S))))) else
  some ((-1),S))))
theorem L0_snd {k : Nat}  : ∀ {n : Nat} ⦃y0 : (Option HA)⦄ ⦃y1 : Int⦄ ⦃y2 : (List UInt8)⦄ ⦃y7 : Int⦄ ⦃S : HS⦄ ⦃p : (Int) × HS⦄ ⦃Gd Ge Gf Gg Gi Gj Gk Gl Gm Gn Go Gp Gq Gr Gs Gt Gu Gv Gw Gx Gy Gz Ka Kb Kc Kd Ke Kf Kg Kh Ki Kj Kk Kl Km Kn : HV⦄,L0 k n y0 y1 y2 y7 S = some p → HRun Tryz.prog base W0 β0 17 none [.inLoop c7,.inBlock 0,.code c23] ⟨[(.ptr y0),(.int .i64 y1),(.str y2),Gd,Ge,Gf,Gg,(.int .i64 y7),Gi,Gj,Gk,Gl,Gm,Gn,Go,Gp,Gq,Gr,Gs,Gt,Gu,Gv,Gw,Gx,Gy,Gz,Ka,Kb,Kc,Kd,Ke,Kf,Kg,Kh,Ki,Kj,Kk,Kl,Km,Kn],[]⟩ S (fun v S1 => v = (.int .i64 p.1) ∧ S1 = p.2) := by
 intro n
 induction n with
 | zero => intro _ _ _ _ _ _ _ _ _ _ _ _ _ _ _ _ _ _ _ _ _ _ _ _ _ _ _ _ _ _ _ _ _ _ _ _ _ _ _ _ _ _ h; cases h
 | succ n ih =>
  intro y0 y1 y2 y7 S p Gd Ge Gf Gg Gi Gj Gk Gl Gm Gn Go Gp Gq Gr Gs Gt Gu Gv Gw Gx Gy Gz Ka Kb Kc Kd Ke Kf Kg Kh Ki Kj Kk Kl Km Kn h
  simp only [L0] at h
  obtain ⟨p1,hp1,h⟩ := bindo h
  refine hr_inLoop (qQ rfl (qQ rfl (qR rfl rfl (qS 8 rfl (oM · rfl) (qS 9 rfl (oM · rfl) (qS 10 rfl (oN · rfl hp1) (qS 11 rfl (oF · fi30_1 (by decide) rfl rfl) ?_)))))))
  try dsimp only [w0,w1,w2,w3]
  obtain ⟨p2,hp2,h⟩ := bindo h
  refine qS 12 rfl (oL · sc28 rfl rfl (ldSl_out hp2)) (qS 13 rfl (ok_len_sl (q := Sl.a p2) (n := Sl.len p2) (z := Sl.cap p2) · rfl tu28 (.tmp rfl)) (qS 14 rfl (oB · rfl rfl rfl) (rE ?_)))
  try dsimp only [w0,w1,w2,w3]
  rcases ifc h with ⟨hc3,h⟩ | ⟨hc3,h⟩
  ·obtain ⟨p4,hp4,h⟩ := bindo h
   obtain ⟨p5,hp5,h⟩ := bindo h
   refine q_cond_t rfl (.tmp rfl) (decide_eq_true hc3) (q_skipc rfl (qQ rfl (q_block rfl (qQ rfl (qR rfl rfl (qS 17 rfl (oM · rfl) (qS 18 rfl (oN · rfl hp4) (qS 19 rfl (oF · fi30_1 (by decide) rfl rfl) (qS 20 rfl (oL · sc28 rfl rfl (ldSl_out hp5)) ?_)))))))))
   try dsimp only [w0,w1,w2,w3]
   obtain ⟨p6,hp6,h⟩ := bindo h
   obtain ⟨p7,hp7,h⟩ := bindo h
   refine qS 21 rfl (oM · rfl) (qS 22 rfl (oX (s := p5) · tu28 sz68 rfl rfl hp6) (qS 23 rfl (oF · fi68_0 (by decide) rfl rfl) (qS 24 rfl (oL · sc3 rfl rfl (ldI_out hp7)) ?_)))
   try dsimp only [w0,w1,w2,w3]
   refine qS 25 rfl (oM · rfl) (qS 26 rfl (oB · rfl rfl rfl) (qS 27 rfl (oM · rfl) ?_))
   rcases ifc h with ⟨hc8,h⟩ | ⟨hc8,h⟩
   ·refine qG 27 28 rfl (decide_eq_true hc8) (oM · rfl) ?_
    try dsimp only [w0,w1,w2,w3]
    obtain ⟨p9,hp9,h⟩ := bindo h
    obtain ⟨p10,hp10,h⟩ := bindo h
    refine qG 27 29 rfl (decide_eq_true hc8) (oN · rfl hp9) (qG 27 30 rfl (decide_eq_true hc8) (oF · fi30_1 (by decide) rfl rfl) (qG 27 31 rfl (decide_eq_true hc8) (oL · sc28 rfl rfl (ldSl_out hp10)) (qG 27 32 rfl (decide_eq_true hc8) (oM · rfl) ?_)))
    try dsimp only [w0,w1,w2,w3]
    obtain ⟨p11,hp11,h⟩ := bindo h
    obtain ⟨p12,hp12,h⟩ := bindo h
    refine qG 27 33 rfl (decide_eq_true hc8) (oX (s := p10) · tu28 sz68 rfl rfl hp11) (qG 27 34 rfl (decide_eq_true hc8) (oF · fi68_1 (by decide) rfl rfl) (qG 27 35 rfl (decide_eq_true hc8) (oL · sc9 rfl rfl (ldS_out hp12)) (qG 27 36 rfl (decide_eq_true hc8) (oM · rfl) ?_)))
    try dsimp only [w0,w1,w2,w3]
    obtain ⟨p13,hp13,h⟩ := bindo h
    refine q_call_g (t := 27) (dst := some 37) rfl rfl rfl (decide_eq_true hc8) (.func _) (.cons (.tmp rfl) (.cons (.tmp rfl) Evs.nil)) (HInv.static rollcallref01_Same.at_ rollcallref01_Same.body (rollcallref01_Same.snd  hp13)) ?_
    rintro _ _ ⟨rfl,rfl⟩
    refine qS 38 rfl (ok_pick_tt · (.tmp rfl) (decide_eq_true hc8) (.tmp rfl)) (rE ?_)
    try dsimp only [w0,w1,w2,w3]
    try dsimp only [w0,w1,w2,w3]
    exact J1_snd ih h
   ·refine q_skip (dst := some 28) (t := 27) rfl rfl rfl (decide_eq_false hc8) ?_
    try dsimp only [w0,w1,w2,w3]
    refine q_skip (dst := some 29) (t := 27) rfl rfl rfl (decide_eq_false hc8) (q_skip (dst := some 30) (t := 27) rfl rfl rfl (decide_eq_false hc8) (q_skip (dst := some 31) (t := 27) rfl rfl rfl (decide_eq_false hc8) (q_skip (dst := some 32) (t := 27) rfl rfl rfl (decide_eq_false hc8) ?_)))
    try dsimp only [w0,w1,w2,w3]
    refine q_skip (dst := some 33) (t := 27) rfl rfl rfl (decide_eq_false hc8) (q_skip (dst := some 34) (t := 27) rfl rfl rfl (decide_eq_false hc8) (q_skip (dst := some 35) (t := 27) rfl rfl rfl (decide_eq_false hc8) (q_skip (dst := some 36) (t := 27) rfl rfl rfl (decide_eq_false hc8) ?_)))
    try dsimp only [w0,w1,w2,w3]
    refine q_skip (dst := some 37) (t := 27) rfl rfl rfl (decide_eq_false hc8) (qS 38 rfl (ok_pick_ff · (.tmp rfl) (decide_eq_false hc8) (.bool _)) (rE ?_))
    try dsimp only [w0,w1,w2,w3]
    try dsimp only [w0,w1,w2,w3]
    exact J1_snd ih h
  ·refine q_cond_f rfl (.tmp rfl) (decide_eq_false hc3) (q_exit rfl rfl (qQ rfl (qR rfl rfl (qS 6 rfl (ok_assign · (.int _ _)) (rE ?_)))))
   try dsimp only [w0,w1,w2,w3]
   cases h
   exact q_ret rfl at_.at_ rfl (res1 rfl rfl) ⟨rfl,rfl⟩
def f (k : Nat) (x0 : (Option HA)) (x1 : Int) (x2 : (List UInt8)) (S : HS) : Option ((Int) × HS) :=
 L0 k k x0 x1 x2 0 S
theorem snd {k : Nat} {x0 : (Option HA)} {x1 : Int} {x2 : (List UInt8)} {S : HS}  {p : (Int) × HS} (h : f k x0 x1 x2 S = some p) : HCall Tryz.prog base W0 β0 17 [(.ptr x0),(.int .i64 x1),(.str x2)] S (fun v S1 => v = (.int .i64 p.1) ∧ S1 = p.2) := by
 unfold f at h
 refine HCall.of_run at_.at_ body ?_
 show HRun Tryz.prog base W0 β0 17 none [.code c0] ⟨[(.ptr x0),(.int .i64 x1),(.str x2),τ,τ,τ,τ,τ,τ,τ,τ,τ,τ,τ,τ,τ,τ,τ,τ,τ,τ,τ,τ,τ,τ,τ,τ,τ,τ,τ,τ,τ,τ,τ,τ,τ,τ,τ,τ,τ],[]⟩ S _
 refine qQ rfl (qR rfl rfl (qS 6 rfl (ok_assign · (.int _ _)) (rE ?_)))
 try dsimp only [w0,w1,w2,w3]
 refine qQ rfl (qQ rfl (qR rfl rfl (qS 7 rfl (ok_assign · (.int _ _)) (rE ?_))))
 try dsimp only [w0,w1,w2,w3]
 refine q_block rfl (q_loop rfl ?_)
 try dsimp only [w0,w1,w2,w3]
 exact L0_snd  h
end
end rollcallref21_Lists_At
namespace rollcallref21_Lists_Remove
theorem at_ : FnAt Tryz.prog 8 Tryz.f8 := ⟨Tryz.func8,by kernel_rfl⟩
noncomputable def d0 := (Tryz.f8.body).getD .skip
noncomputable def r1 := kR (kA d0)
noncomputable def r3 := kR (kA (kB d0))
noncomputable def r6 := kR (kA (kA (kB (kB d0))))
noncomputable def r9 := kR (kA (kA (kB (kA (kB (kB d0))))))
noncomputable def r13 := kR (kA (kB (kB (kB d0))))
noncomputable def r15 := kR (kA (kB (kB (kB (kB d0)))))
noncomputable def c0 : Code := .seq (.region 0 r1 false) (.seq (.region 1 r3 false) (.seq (.seq (.region 2 r6 false) (.cond (.tmp 13) (.seq (.region 3 r9 false) .ret) .skip)) (.seq (.region 4 r13 true) (.seq (.region 5 r15 false) .ret))))
theorem body : Tryz.f8.body = some c0 := by kernel_rfl
section
variable {base : Nat} {W0 : World} {β0 : Bt}
def f (k : Nat) (x0 : (Option HA)) (x1 : Int) (x2 : (List UInt8)) (S : HS) : Option ((Bool) × HS) :=
 (Option.bind (rollcallref21_Lists_At.f k x0 x1 x2 S) fun p1 =>
 (if p1.1 < 0 then
 some (false,p1.2) else
 (letv (HS.lit p1.2 [] 2) fun p3 =>
 (Option.bind (x0) fun p4 =>
 (Option.bind (HS.ldSl (p3.2) (HA.fld p4 1)) fun p5 =>
 (Option.bind (HS.ldSl p1.2 (HA.fld p4 1)) fun p6 =>
 (if p6 = p5 then
 (Option.bind (HS.cut (p3.2) p5 0 p1.1 2) fun p8 =>
 (Option.bind (HS.cut p1.2 p5 0 p1.1 2) fun p9 =>
 (if p9 = p8 then
 (Option.bind (HS.rows (p3.2) p8 2) fun p11 =>
 (Option.bind (HS.app (p3.2) (p3.1) p11 2) fun p12 =>
 (Option.bind (x0) fun p13 =>
 (Option.bind (HS.ldSl (p12.2) (HA.fld p13 1)) fun p14 =>
 (Option.bind (HS.ldSl (p3.2) (HA.fld p13 1)) fun p15 =>
 (if p15 = p14 then
 (Option.bind (HS.ldSl p1.2 (HA.fld p13 1)) fun p17 =>
 (if p17 = p14 then
 (Option.bind (HS.cut (p12.2) p14 (w64 (p1.1 + 1)) (Sl.len p14 : Int) 2) fun p19 =>
 (Option.bind (HS.cut (p3.2) p14 (w64 (p1.1 + 1)) (Sl.len p14 : Int) 2) fun p20 =>
 (if p20 = p19 then
 (Option.bind (HS.cut p1.2 p14 (w64 (p1.1 + 1)) (Sl.len p14 : Int) 2) fun p22 =>
 (if p22 = p19 then
 (Option.bind (HS.rows (p12.2) p19 2) fun p24 =>
 (Option.bind (HS.app (p12.2) (p12.1) p24 2) fun p25 =>
 (Option.bind (x0) fun p26 =>
 (Option.bind (HS.sets (p25.2) (HA.fld p26 1) [(Sl.hv (p25.1))]) fun p27 =>
 some (true,p27))))) else none)) else none))) else none)) else none)))))) else none))) else none)))))))
theorem snd {k : Nat} {x0 : (Option HA)} {x1 : Int} {x2 : (List UInt8)} {S : HS}  {p : (Bool) × HS} (h : f k x0 x1 x2 S = some p) : HCall Tryz.prog base W0 β0 8 [(.ptr x0),(.int .i64 x1),(.str x2)] S (fun v S1 => v = (.bool p.1) ∧ S1 = p.2) := by
 unfold f at h
 refine HCall.of_run at_.at_ body ?_
 show HRun Tryz.prog base W0 β0 8 none [.code c0] ⟨[(.ptr x0),(.int .i64 x1),(.str x2),τ,τ,τ,τ,τ,τ,τ,τ,τ,τ,τ,τ,τ,τ,τ,τ,τ,τ,τ,τ,τ,τ,τ,τ,τ,τ,τ,τ,τ,τ],[]⟩ S _
 refine qQ rfl (qR rfl rfl (qS 6 rfl (ok_assign · (.bool _)) (rE ?_)))
 try dsimp only [w0,w1,w2,w3]
 obtain ⟨p1,hp1,h⟩ := bindo h
 refine qQ rfl (qR rfl rfl (qS 8 rfl (oM · rfl) (qS 9 rfl (oM · rfl) (qS 10 rfl (oM · rfl) (q_call (dst := some 11) rfl (.func _) (.cons (.tmp rfl) (.cons (.tmp rfl) (.cons (.tmp rfl) Evs.nil))) (HInv.static rollcallref21_Lists_At.at_ rollcallref21_Lists_At.body (rollcallref21_Lists_At.snd  hp1)) ?_)))))
 rintro _ _ ⟨rfl,rfl⟩
 try dsimp only [w0,w1,w2,w3]
 refine qS 7 rfl (oA · rfl) (rE ?_)
 try dsimp only [w0,w1,w2,w3]
 refine qQ rfl (qQ rfl (qR rfl rfl (qS 12 rfl (oM · rfl) (qS 13 rfl (oC · rfl rfl) (rE ?_)))))
 try dsimp only [w0,w1,w2,w3]
 rcases ifc h with ⟨hc2,h⟩ | ⟨hc2,h⟩
 ·refine q_cond_t rfl (.tmp rfl) (decide_eq_true hc2) (qQ rfl (qR rfl rfl (qS 6 rfl (ok_assign · (.bool _)) (rE ?_))))
  try dsimp only [w0,w1,w2,w3]
  cases h
  exact q_ret rfl at_.at_ rfl (res1 rfl rfl) ⟨rfl,rfl⟩
 ·refine q_cond_f rfl (.tmp rfl) (decide_eq_false hc2) (q_skipc rfl (qQ rfl ?_))
  refine x_start (cls := [0,2,0,0,0,3,0,3,2,0,0,0,3,0,0,3,2,0,0,2]) (rk := [0,1,2,3,4,5,6,7,8,9,10,11,12,13,14,15,16,17,18,19]) rfl (by kernel_rfl) ?_
  refine xf 14 [0] rfl (oM · rfl) ?_
  obtain ⟨p3,hp3,h⟩ := leto h
  refine ze 15 [] rfl (ok_buildSlice_s (xs := []) el28 · rfl rfl (by decide) Evs.nil rfl rfl hp3) trivial ?_
  refine xf 16 [0] rfl (oM · rfl) ?_
  obtain ⟨p4,hp4,h⟩ := bindo h
  refine xf 17 [16] rfl (oN · rfl hp4) ?_
  try dsimp only [w0,w1,w2,w3]
  refine xf 18 [17] rfl (oF · fi30_1 (by decide) rfl rfl) ?_
  obtain ⟨p5,hp5,h⟩ := bindo h
  obtain ⟨p6,hp6,h⟩ := bindo h
  obtain ⟨hg7,h⟩ := gd h
  refine x_late (r_op (dst := some 19) (ts := [18]) rfl (by intro _ _ h; cases h) (by kernel_rfl) (fun _ ho => ok_load_s ho sc28 (.tmp rfl) rfl (ldSl_out hp5))) rfl ⟨.inr (l_op (dst := some 19) (ts := [18]) rfl (by intro _ _ h; cases h) (by kernel_rfl) (fun _ ho => ok_load_s ho sc28 (.tmp rfl) rfl (ldSl_out (hp6.trans (congrArg some hg7))))),trivial⟩ ?_
  refine xf 20 [7] rfl (oM · rfl) ?_
  obtain ⟨p8,hp8,h⟩ := bindo h
  obtain ⟨p9,hp9,h⟩ := bindo h
  obtain ⟨hg10,h⟩ := gd h
  refine x_late (r_op (dst := some 21) (ts := [19,20]) rfl (by intro _ _ h; cases h) (by kernel_rfl) (fun _ ho => ok_slice (kl := .i64) (kh := .i64) (s := p5) (l := 0) (h := p1.1) ho tu28 si68 (.tmp rfl) (.inl ⟨rfl,rfl⟩) (.inr ⟨_,rfl,(.tmp rfl)⟩) hp8)) rfl ⟨.inr (l_op (dst := some 21) (ts := [19,20]) rfl (by intro _ _ h; cases h) (by kernel_rfl) (fun _ ho => ok_slice (kl := .i64) (kh := .i64) (s := p5) (l := 0) (h := p1.1) ho tu28 si68 (.tmp rfl) (.inl ⟨rfl,rfl⟩) (.inr ⟨_,rfl,(.tmp rfl)⟩) (hp9.trans (congrArg some hg10)))),trivial⟩ ?_
  try dsimp only [w0,w1,w2,w3]
  obtain ⟨p11,hp11,h⟩ := bindo h
  obtain ⟨p12,hp12,h⟩ := bindo h
  refine ze 22 [15,21] rfl (ok_append (s := (p3.1)) (s1 := p8) el28 · rfl rfl ⟨_,tu28⟩ (.tmp rfl) (.tmp rfl) hp11 hp12) ⟨.inl (by kernel_rfl),.inl (by kernel_rfl),trivial⟩ ?_
  refine xf 23 [0] rfl (oM · rfl) ?_
  obtain ⟨p13,hp13,h⟩ := bindo h
  refine xf 24 [23] rfl (oN · rfl hp13) ?_
  refine xf 25 [24] rfl (oF · fi30_1 (by decide) rfl rfl) ?_
  try dsimp only [w0,w1,w2,w3]
  obtain ⟨p14,hp14,h⟩ := bindo h
  obtain ⟨p15,hp15,h⟩ := bindo h
  obtain ⟨hg16,h⟩ := gd h
  obtain ⟨p17,hp17,h⟩ := bindo h
  obtain ⟨hg18,h⟩ := gd h
  refine x_late (r_op (dst := some 26) (ts := [25]) rfl (by intro _ _ h; cases h) (by kernel_rfl) (fun _ ho => ok_load_s ho sc28 (.tmp rfl) rfl (ldSl_out hp14))) rfl ⟨.inr (l_op (dst := some 26) (ts := [25]) rfl (by intro _ _ h; cases h) (by kernel_rfl) (fun _ ho => ok_load_s ho sc28 (.tmp rfl) rfl (ldSl_out (hp15.trans (congrArg some hg16))))),.inr (l_op (dst := some 26) (ts := [25]) rfl (by intro _ _ h; cases h) (by kernel_rfl) (fun _ ho => ok_load_s ho sc28 (.tmp rfl) rfl (ldSl_out (hp17.trans (congrArg some hg18))))),trivial⟩ ?_
  refine xf 27 [7] rfl (oM · rfl) ?_
  refine xf 28 [27] rfl (oC · rfl rfl) ?_
  obtain ⟨p19,hp19,h⟩ := bindo h
  obtain ⟨p20,hp20,h⟩ := bindo h
  obtain ⟨hg21,h⟩ := gd h
  obtain ⟨p22,hp22,h⟩ := bindo h
  obtain ⟨hg23,h⟩ := gd h
  refine x_late (r_op (dst := some 29) (ts := [26,28]) rfl (by intro _ _ h; cases h) (by kernel_rfl) (fun _ ho => ok_slice (kl := .i64) (kh := .i64) (s := p14) (l := (w64 (p1.1 + 1))) (h := (Sl.len p14 : Int)) ho tu28 si68 (.tmp rfl) (.inr ⟨_,rfl,(.tmp rfl)⟩) (.inl ⟨rfl,rfl⟩) hp19)) rfl ⟨.inr (l_op (dst := some 29) (ts := [26,28]) rfl (by intro _ _ h; cases h) (by kernel_rfl) (fun _ ho => ok_slice (kl := .i64) (kh := .i64) (s := p14) (l := (w64 (p1.1 + 1))) (h := (Sl.len p14 : Int)) ho tu28 si68 (.tmp rfl) (.inr ⟨_,rfl,(.tmp rfl)⟩) (.inl ⟨rfl,rfl⟩) (hp20.trans (congrArg some hg21)))),.inr (l_op (dst := some 29) (ts := [26,28]) rfl (by intro _ _ h; cases h) (by kernel_rfl) (fun _ ho => ok_slice (kl := .i64) (kh := .i64) (s := p14) (l := (w64 (p1.1 + 1))) (h := (Sl.len p14 : Int)) ho tu28 si68 (.tmp rfl) (.inr ⟨_,rfl,(.tmp rfl)⟩) (.inl ⟨rfl,rfl⟩) (hp22.trans (congrArg some hg23)))),trivial⟩ ?_
  try dsimp only [w0,w1,w2,w3]
  obtain ⟨p24,hp24,h⟩ := bindo h
  obtain ⟨p25,hp25,h⟩ := bindo h
  refine ze 30 [22,29] rfl (ok_append (s := (p12.1)) (s1 := p19) el28 · rfl rfl ⟨_,tu28⟩ (.tmp rfl) (.tmp rfl) hp24 hp25) ⟨.inl (by kernel_rfl),.inl (by kernel_rfl),.inl (by kernel_rfl),.inl (by kernel_rfl),trivial⟩ ?_
  obtain ⟨p26,hp26,h⟩ := bindo h
  refine xf 31 [14] rfl (oN · rfl hp26) ?_
  refine xf 32 [31] rfl (oF · fi30_1 (by decide) rfl rfl) ?_
  obtain ⟨p27,hp27,h⟩ := bindo h
  refine x_goE (e_op (dst := none) (ts := [32,30]) rfl (by intro _ _ h; cases h) (by kernel_rfl) (fun _ ho => ok_store_s (v := (Sl.hv (p25.1))) ho sz28 (.tmp rfl) rfl (.tmp rfl) rfl hp27)) rfl ⟨.inl (by kernel_rfl),.inl (by kernel_rfl),.inl (by kernel_rfl),.inl (by kernel_rfl),trivial⟩ ?_
  refine x_rest rfl ?_
  refine rE ?_
  try dsimp only [w0,w1,w2,w3]
  refine qQ rfl (qR rfl rfl (qS 6 rfl (ok_assign · (.bool _)) (rE ?_)))
  try dsimp only [w0,w1,w2,w3]
  cases h
  exact q_ret rfl at_.at_ rfl (res1 rfl rfl) ⟨rfl,rfl⟩
end
end rollcallref21_Lists_Remove
namespace pair_Rel_int_string_Of_1
theorem at_ : FnAt Tryz.prog 58 Tryz.f58 := ⟨Tryz.func58,by kernel_rfl⟩
noncomputable def c0 : Code := .skip
theorem body : Tryz.f58.body = some c0 := by kernel_rfl
section
variable {base : Nat} {W0 : World} {β0 : Bt}
def f (x0 : HV) : Option (Unit) :=
 some ()
theorem snd {x0 : HV} {S : HS}  {p : Unit} (h : f x0 = some p) : HCall Tryz.prog base W0 β0 58 [x0] S (fun v S1 => v = (.tup []) ∧ S1 = S) := by
 unfold f at h
 refine HCall.of_run at_.at_ body ?_
 show HRun Tryz.prog base W0 β0 58 none [.code c0] ⟨[x0,τ],[]⟩ S _
 cases h
 exact q_skipc rfl (q_end at_.at_ rfl (res0 rfl) ⟨rfl,rfl⟩)
end
end pair_Rel_int_string_Of_1
namespace slices_Clone_string_string
theorem at_ : FnAt Tryz.prog 94 Tryz.f94 := ⟨Tryz.func94,by kernel_rfl⟩
noncomputable def d0 := (Tryz.f94.body).getD .skip
noncomputable def r1 := kR (kA d0)
noncomputable def r4 := kR (kA (kA (kB d0)))
noncomputable def r7 := kR (kA (kA (kB (kA (kB d0)))))
noncomputable def r11 := kR (kA (kB (kB d0)))
noncomputable def c0 : Code := .seq (.region 0 r1 false) (.seq (.seq (.region 1 r4 false) (.cond (.tmp 4) (.seq (.region 2 r7 false) .ret) .skip)) (.seq (.region 3 r11 false) .ret))
theorem body : Tryz.f94.body = some c0 := by kernel_rfl
section
variable {base : Nat} {W0 : World} {β0 : Bt}
def f (x0 : Sl) (S : HS) : Option ((Sl) × HS) :=
 (if (Option.isNone (Sl.a x0)) = true then
 some (Sl.nil,S) else
 (letv (HS.lit S [] 1) fun p2 =>
 (Option.bind (HS.rows (p2.2) x0 1) fun p3 =>
 (Option.bind (HS.app (p2.2) (p2.1) p3 1) fun p4 =>
 some ((p4.1),(p4.2))))))
theorem snd {x0 : Sl} {S : HS}  {p : (Sl) × HS} (h : f x0 S = some p) : HCall Tryz.prog base W0 β0 94 [(Sl.hv x0)] S (fun v S1 => v = (Sl.hv p.1) ∧ S1 = p.2) := by
 unfold f at h
 refine HCall.of_run at_.at_ body ?_
 show HRun Tryz.prog base W0 β0 94 none [.code c0] ⟨[(Sl.hv x0),τ,τ,τ,τ,τ,τ,τ],[]⟩ S _
 refine qQ rfl (qR rfl rfl (qS 2 rfl (ok_assign · (.const fun _ => .slNil none)) (rE ?_)))
 try dsimp only [w0,w1,w2,w3]
 refine qQ rfl (qQ rfl (qR rfl rfl (qS 3 rfl (oM · rfl) (qS 4 rfl (ok_nil_sl · tu38 (.tmp rfl) (.inl ⟨rfl,rfl⟩)) (rE ?_)))))
 try dsimp only [w0,w1,w2,w3]
 rcases ifc h with ⟨hc1,h⟩ | ⟨hc1,h⟩
 ·refine q_cond_t rfl (.tmp rfl) hc1 (qQ rfl (qR rfl rfl (qS 2 rfl (ok_assign · (.const fun _ => .slNil none)) (rE ?_))))
  try dsimp only [w0,w1,w2,w3]
  cases h
  exact q_ret rfl at_.at_ rfl (res1 rfl rfl) ⟨rfl,rfl⟩
 ·obtain ⟨p2,hp2,h⟩ := leto h
  obtain ⟨p3,hp3,h⟩ := bindo h
  obtain ⟨p4,hp4,h⟩ := bindo h
  refine q_cond_f rfl (.tmp rfl) (bfalse hc1) (q_skipc rfl (qQ rfl (qR rfl rfl (qS 5 rfl (ok_buildSlice_s (xs := []) el38 · rfl rfl (by decide) Evs.nil rfl rfl hp2) (qS 6 rfl (oM · rfl) (qS 7 rfl (ok_append (s := (p2.1)) (s1 := x0) el38 · rfl rfl ⟨_,tu38⟩ (.tmp rfl) (.tmp rfl) hp3 hp4) (qS 2 rfl (oA · rfl) (rE ?_))))))))
  try dsimp only [w0,w1,w2,w3]
  cases h
  exact q_ret rfl at_.at_ rfl (res1 rfl rfl) ⟨rfl,rfl⟩
end
end slices_Clone_string_string
namespace set_Set_string_List
theorem at_ : FnAt Tryz.prog 77 Tryz.f77 := ⟨Tryz.func77,by kernel_rfl⟩
noncomputable def d0 := (Tryz.f77.body).getD .skip
noncomputable def r1 := kR (kA d0)
noncomputable def r4 := kR (kA (kA (kB d0)))
noncomputable def r7 := kR (kA (kA (kB (kA (kB d0)))))
noncomputable def r11 := kR (kA (kB (kB d0)))
noncomputable def c0 : Code := .seq (.region 0 r1 false) (.seq (.seq (.region 1 r4 false) (.cond (.tmp 4) (.seq (.region 2 r7 false) .ret) .skip)) (.seq (.region 3 r11 false) .ret))
theorem body : Tryz.f77.body = some c0 := by kernel_rfl
section
variable {base : Nat} {W0 : World} {β0 : Bt}
def f (x0 : (Option HA)) (S : HS) : Option ((Sl) × HS) :=
 (if (Option.isNone x0) = true then
 some (Sl.nil,S) else
 (Option.bind (x0) fun p2 =>
 (Option.bind (HS.ldSl S (HA.fld p2 0)) fun p3 =>
 (Option.bind (slices_Clone_string_string.f p3 S) fun p4 =>
 some (p4.1,p4.2)))))
theorem snd {x0 : (Option HA)} {S : HS}  {p : (Sl) × HS} (h : f x0 S = some p) : HCall Tryz.prog base W0 β0 77 [(.ptr x0)] S (fun v S1 => v = (Sl.hv p.1) ∧ S1 = p.2) := by
 unfold f at h
 refine HCall.of_run at_.at_ body ?_
 show HRun Tryz.prog base W0 β0 77 none [.code c0] ⟨[(.ptr x0),τ,τ,τ,τ,τ,τ,τ,τ,τ],[]⟩ S _
 refine qQ rfl (qR rfl rfl (qS 2 rfl (ok_assign · (.const fun _ => .slNil none)) (rE ?_)))
 try dsimp only [w0,w1,w2,w3]
 refine qQ rfl (qQ rfl (qR rfl rfl (qS 3 rfl (oM · rfl) (qS 4 rfl (ok_nil_ptr · tu87 (.tmp rfl) (.inl ⟨rfl,rfl⟩)) (rE ?_)))))
 try dsimp only [w0,w1,w2,w3]
 rcases ifc h with ⟨hc1,h⟩ | ⟨hc1,h⟩
 ·refine q_cond_t rfl (.tmp rfl) hc1 (qQ rfl (qR rfl rfl (qS 2 rfl (ok_assign · (.const fun _ => .slNil none)) (rE ?_))))
  try dsimp only [w0,w1,w2,w3]
  cases h
  exact q_ret rfl at_.at_ rfl (res1 rfl rfl) ⟨rfl,rfl⟩
 ·obtain ⟨p2,hp2,h⟩ := bindo h
  obtain ⟨p3,hp3,h⟩ := bindo h
  refine q_cond_f rfl (.tmp rfl) (bfalse hc1) (q_skipc rfl (qQ rfl (qR rfl rfl (qS 5 rfl (oM · rfl) (qS 6 rfl (oN · rfl hp2) (qS 7 rfl (oF · fi103_0 (by decide) rfl rfl) (qS 8 rfl (oL · sc38 rfl rfl (ldSl_out hp3)) ?_)))))))
  try dsimp only [w0,w1,w2,w3]
  obtain ⟨p4,hp4,h⟩ := bindo h
  refine q_call (dst := some 9) rfl (.func _) (.cons (.tmp rfl) Evs.nil) (HInv.static slices_Clone_string_string.at_ slices_Clone_string_string.body (slices_Clone_string_string.snd  hp4)) ?_
  rintro _ _ ⟨rfl,rfl⟩
  refine qS 2 rfl (oA · rfl) (rE ?_)
  try dsimp only [w0,w1,w2,w3]
  cases h
  exact q_ret rfl at_.at_ rfl (res1 rfl rfl) ⟨rfl,rfl⟩
end
end set_Set_string_List
namespace slices_Values_string_string_1
theorem at_ : FnAt Tryz.prog 93 Tryz.f93 := ⟨Tryz.func93,by kernel_rfl⟩
noncomputable def d0 := (Tryz.f93.body).getD .skip
noncomputable def r1 := kR (kA d0)
noncomputable def d4 := kA (kA (kB d0))
noncomputable def r5 := kR (kA d4)
noncomputable def r13 := kR (kA (kA (kA (kB (kB d4)))))
noncomputable def r15 := kR (kA (kB (kA (kA (kB (kB d4))))))
noncomputable def r19 := kR (kB (kB (kB d4)))
noncomputable def c4 : Code := .seq (.region 1 r5 false) (.seq (.cond (.tmp 8) .skip (.exit 0)) (.seq (.block 1 (.seq (.region 2 r13 false) (.seq (.region 3 r15 false) (.cond (.tmp 14) .ret .skip)))) (.region 4 r19 false)))
noncomputable def c0 : Code := .seq (.region 0 r1 false) (.block 0 (.loop c4))
theorem body : Tryz.f93.body = some c0 := by kernel_rfl
section
variable {base : Nat} {W0 : World} {β0 : Bt}
def L0 (D : Dp) (H : Hd) (k : Nat) : Nat → HV → Sl → Int → Int → HS → Option ((Unit) × HS)
 | 0,_,_,_,_,_ => none
 | n + 1,y0,y5,y6,y7,S =>
  (if y7 < y6 then
  (Option.bind (HS.idx S y5 y7 1) fun p4 =>
  (Option.bind (HS.ldS S p4) fun p5 =>
  (Option.bind (D H y0 [(.str p5)] S) fun p6 =>
  (Option.bind (dB p6.1) fun p7 =>
  (if (!p7) = true then
  some ((),p6.2) else
  (L0 D H k n) y0 y5 y6 (w64 (y7 + 1)) p6.2))))) else
  some ((),S))
theorem L0_snd {D : Dp} {H : Hd} {k : Nat} (hD : DSound Tryz.prog base W0 D) (hH : HSound Tryz.prog base W0 β0 H)  : ∀ {n : Nat} ⦃y0 : HV⦄ ⦃y5 : Sl⦄ ⦃y6 : Int⦄ ⦃y7 : Int⦄ ⦃S : HS⦄ ⦃p : (Unit) × HS⦄ ⦃Gb Gc Gd Ge Gi Gj Gk Gl Gm Gn Go Gp : HV⦄,L0 D H k n y0 y5 y6 y7 S = some p → HRun Tryz.prog base W0 β0 93 none [.inLoop c4,.inBlock 0] ⟨[y0,Gb,Gc,Gd,Ge,(Sl.hv y5),(.int .i64 y6),(.int .i64 y7),Gi,Gj,Gk,Gl,Gm,Gn,Go,Gp],[]⟩ S (fun v S1 => v = (.tup []) ∧ S1 = p.2) := by
 intro n
 induction n with
 | zero => intro _ _ _ _ _ _ _ _ _ _ _ _ _ _ _ _ _ _ h; cases h
 | succ n ih =>
  intro y0 y5 y6 y7 S p Gb Gc Gd Ge Gi Gj Gk Gl Gm Gn Go Gp h
  simp only [L0] at h
  refine hr_inLoop (qQ rfl (qR rfl rfl (qS 8 rfl (oB · rfl rfl rfl) (rE ?_))))
  try dsimp only [w0,w1,w2,w3]
  refine qQ rfl ?_
  rcases ifc h with ⟨hc3,h⟩ | ⟨hc3,h⟩
  ·obtain ⟨p4,hp4,h⟩ := bindo h
   obtain ⟨p5,hp5,h⟩ := bindo h
   refine q_cond_t rfl (.tmp rfl) (decide_eq_true hc3) (q_skipc rfl (qQ rfl (q_block rfl (qQ rfl (qR rfl rfl (qS 9 rfl (oX (s := y5) · tu38 sz9 rfl rfl hp4) (qS 10 rfl (oL · sc9 rfl rfl (ldS_out hp5)) (qS 4 rfl (oA · rfl) (rE ?_)))))))))
   try dsimp only [w0,w1,w2,w3]
   obtain ⟨p6,hp6,h⟩ := bindo h
   obtain ⟨p7,hp7,h⟩ := bindo h
   refine qQ rfl (qR rfl rfl (qS 11 rfl (oM · rfl) (qS 12 rfl (oM · rfl) (q_call (dst := some 13) rfl (.tmp rfl) (.cons (.tmp rfl) Evs.nil) (hD _ _ hH _ _ _ _ _ hp6) ?_))))
   rintro _ _ ⟨rfl,rfl⟩
   rw [dB_out hp7]
   refine qS 14 rfl (ok_not · (.tmp rfl)) (rE ?_)
   try dsimp only [w0,w1,w2,w3]
   rcases ifc h with ⟨hc8,h⟩ | ⟨hc8,h⟩
   ·cases h
    exact q_cond_t rfl (.tmp rfl) hc8 (q_ret rfl at_.at_ rfl (res0 rfl) ⟨rfl,rfl⟩)
   ·refine q_cond_f rfl (.tmp rfl) (bfalse hc8) (q_skipc rfl (hr_inBlock (qR rfl rfl (qS 15 rfl (oC · rfl rfl) (qS 7 rfl (oM · rfl) (rE ?_))))))
    try dsimp only [w0,w1,w2,w3]
    try dsimp only [w0,w1,w2,w3]
    exact ih h
  ·cases h
   exact q_cond_f rfl (.tmp rfl) (decide_eq_false hc3) (q_exit rfl rfl (q_end at_.at_ rfl (res0 rfl) ⟨rfl,rfl⟩))
def f (D : Dp) (H : Hd) (k : Nat) (x0 : HV) (x1 : (Option HA)) (S : HS) : Option ((Unit) × HS) :=
 (Option.bind (x1) fun p1 =>
 (Option.bind (HS.ldSl S p1) fun p2 =>
 L0 D H k k x0 p2 (Sl.len p2 : Int) 0 S))
theorem snd {D : Dp} {H : Hd} {k : Nat} {x0 : HV} {x1 : (Option HA)} {S : HS} (hD : DSound Tryz.prog base W0 D) (hH : HSound Tryz.prog base W0 β0 H)  {p : (Unit) × HS} (h : f D H k x0 x1 S = some p) : HCall Tryz.prog base W0 β0 93 [x0,(.ptr x1)] S (fun v S1 => v = (.tup []) ∧ S1 = p.2) := by
 unfold f at h
 refine HCall.of_run at_.at_ body ?_
 show HRun Tryz.prog base W0 β0 93 none [.code c0] ⟨[x0,(.ptr x1),τ,τ,τ,τ,τ,τ,τ,τ,τ,τ,τ,τ,τ,τ],[]⟩ S _
 obtain ⟨p1,hp1,h⟩ := bindo h
 obtain ⟨p2,hp2,h⟩ := bindo h
 refine qQ rfl (qR rfl rfl (qS 5 rfl (oL · sc38 rfl hp1 (ldSl_out hp2)) (qS 6 rfl (ok_len_sl (q := Sl.a p2) (n := Sl.len p2) (z := Sl.cap p2) · rfl tu38 (.tmp rfl)) (qS 7 rfl (ok_move · (.int _ _)) (rE ?_)))))
 try dsimp only [w0,w1,w2,w3]
 refine q_block rfl (q_loop rfl ?_)
 try dsimp only [w0,w1,w2,w3]
 exact L0_snd hD hH h
end
end slices_Values_string_string_1
namespace slices_Values_string_string
theorem at_ : FnAt Tryz.prog 76 Tryz.f76 := ⟨Tryz.func76,by kernel_rfl⟩
noncomputable def d0 := (Tryz.f76.body).getD .skip
noncomputable def r1 := kR (kA d0)
noncomputable def r3 := kR (kA (kB d0))
noncomputable def c0 : Code := .seq (.region 0 r1 false) (.seq (.region 1 r3 false) .ret)
theorem body : Tryz.f76.body = some c0 := by kernel_rfl
section
variable {base : Nat} {W0 : World} {β0 : Bt}
def f (x0 : Sl) (S : HS) : Option ((HV) × HS) :=
 (letv (HS.new S (.cells 1 [[(Sl.hv x0)]] true)) fun p1 =>
 some ((HV.fn (.func 93) [] [(.ptr (some (HA.cell0 S.next)))]),p1))
theorem snd {x0 : Sl} {S : HS}  {p : (HV) × HS} (h : f x0 S = some p) : HCall Tryz.prog base W0 β0 76 [(Sl.hv x0)] S (fun v S1 => v = p.1 ∧ S1 = p.2) := by
 unfold f at h
 refine HCall.of_run at_.at_ body ?_
 show HRun Tryz.prog base W0 β0 76 none [.code c0] ⟨[(Sl.hv x0),τ,τ,τ],[]⟩ S _
 obtain ⟨p1,hp1,h⟩ := leto h
 refine qQ rfl (qR rfl rfl (qS 1 rfl (ok_box_e · (.tmp rfl) (Nat.zero_lt_succ _) rfl hp1) (qS 2 rfl (ok_assign · (.const fun _ => .nilFn)) (rE ?_))))
 try dsimp only [w0,w1,w2,w3]
 refine qQ rfl (qR rfl rfl (qS 3 rfl (ok_makeFunc · Evs.nil (.cons (.tmp rfl) Evs.nil)) (qS 2 rfl (oA · rfl) (rE ?_))))
 try dsimp only [w0,w1,w2,w3]
 cases h
 exact q_ret rfl at_.at_ rfl (res1 rfl rfl) ⟨rfl,rfl⟩
end
end slices_Values_string_string
namespace set_Set_string_All
theorem at_ : FnAt Tryz.prog 59 Tryz.f59 := ⟨Tryz.func59,by kernel_rfl⟩
noncomputable def d0 := (Tryz.f59.body).getD .skip
noncomputable def r1 := kR (kA d0)
noncomputable def r3 := kR (kA (kB d0))
noncomputable def c0 : Code := .seq (.region 0 r1 false) (.seq (.region 1 r3 false) .ret)
theorem body : Tryz.f59.body = some c0 := by kernel_rfl
section
variable {base : Nat} {W0 : World} {β0 : Bt}
def f (x0 : (Option HA)) (S : HS) : Option ((HV) × HS) :=
 (Option.bind (set_Set_string_List.f x0 S) fun p1 =>
 (Option.bind (slices_Values_string_string.f p1.1 p1.2) fun p2 =>
 some (p2.1,p2.2)))
theorem snd {x0 : (Option HA)} {S : HS}  {p : (HV) × HS} (h : f x0 S = some p) : HCall Tryz.prog base W0 β0 59 [(.ptr x0)] S (fun v S1 => v = p.1 ∧ S1 = p.2) := by
 unfold f at h
 refine HCall.of_run at_.at_ body ?_
 show HRun Tryz.prog base W0 β0 59 none [.code c0] ⟨[(.ptr x0),τ,τ,τ,τ,τ],[]⟩ S _
 refine qQ rfl (qR rfl rfl (qS 2 rfl (ok_assign · (.const fun _ => .nilFn)) (rE ?_)))
 try dsimp only [w0,w1,w2,w3]
 obtain ⟨p1,hp1,h⟩ := bindo h
 refine qQ rfl (qR rfl rfl (qS 3 rfl (oM · rfl) (q_call (dst := some 4) rfl (.func _) (.cons (.tmp rfl) Evs.nil) (HInv.static set_Set_string_List.at_ set_Set_string_List.body (set_Set_string_List.snd  hp1)) ?_)))
 rintro _ _ ⟨rfl,rfl⟩
 obtain ⟨p2,hp2,h⟩ := bindo h
 refine q_call (dst := some 5) rfl (.func _) (.cons (.tmp rfl) Evs.nil) (HInv.static slices_Values_string_string.at_ slices_Values_string_string.body (slices_Values_string_string.snd  hp2)) ?_
 rintro _ _ ⟨rfl,rfl⟩
 refine qS 2 rfl (oA · rfl) (rE ?_)
 try dsimp only [w0,w1,w2,w3]
 cases h
 exact q_ret rfl at_.at_ rfl (res1 rfl rfl) ⟨rfl,rfl⟩
end
end set_Set_string_All
namespace pair_Rel_int_string_Of
theorem at_ : FnAt Tryz.prog 41 Tryz.f41 := ⟨Tryz.func41,by kernel_rfl⟩
noncomputable def d0 := (Tryz.f41.body).getD .skip
noncomputable def r1 := kR (kA d0)
noncomputable def r4 := kR (kA (kA (kB d0)))
noncomputable def r7 := kR (kA (kA (kB (kA (kB d0)))))
noncomputable def r11 := kR (kA (kB (kB d0)))
noncomputable def c0 : Code := .seq (.region 0 r1 false) (.seq (.seq (.region 1 r4 false) (.cond (.tmp 6) (.seq (.region 2 r7 false) .ret) .skip)) (.seq (.region 3 r11 false) .ret))
theorem body : Tryz.f41.body = some c0 := by kernel_rfl
section
variable {base : Nat} {W0 : World} {β0 : Bt}
def f (x0 : (Option HA)) (x1 : Int) (S : HS) : Option ((HV) × HS) :=
 (if (Option.isNone x0) = true then
 some ((HV.fn (.func 58) [] []),S) else
 (Option.bind (x0) fun p2 =>
 (Option.bind (HS.ldM S (HA.fld p2 2)) fun p3 =>
 (Option.bind (HS.look S p3 (.int .i64 x1)) fun p4 =>
 (Option.bind (dP (Option.getD p4 (.ptr none))) fun p5 =>
 (Option.bind (set_Set_string_All.f p5 S) fun p6 =>
 some (p6.1,p6.2)))))))
theorem snd {x0 : (Option HA)} {x1 : Int} {S : HS}  {p : (HV) × HS} (h : f x0 x1 S = some p) : HCall Tryz.prog base W0 β0 41 [(.ptr x0),(.int .i64 x1)] S (fun v S1 => v = p.1 ∧ S1 = p.2) := by
 unfold f at h
 refine HCall.of_run at_.at_ body ?_
 show HRun Tryz.prog base W0 β0 41 none [.code c0] ⟨[(.ptr x0),(.int .i64 x1),τ,τ,τ,τ,τ,τ,τ,τ,τ,τ,τ,τ],[]⟩ S _
 refine qQ rfl (qR rfl rfl (qS 4 rfl (ok_assign · (.const fun _ => .nilFn)) (rE ?_)))
 try dsimp only [w0,w1,w2,w3]
 refine qQ rfl (qQ rfl (qR rfl rfl (qS 5 rfl (oM · rfl) (qS 6 rfl (ok_nil_ptr · tu55 (.tmp rfl) (.inl ⟨rfl,rfl⟩)) (rE ?_)))))
 try dsimp only [w0,w1,w2,w3]
 rcases ifc h with ⟨hc1,h⟩ | ⟨hc1,h⟩
 ·refine q_cond_t rfl (.tmp rfl) hc1 (qQ rfl (qR rfl rfl (qS 4 rfl (ok_assign · (.func _)) (rE ?_))))
  try dsimp only [w0,w1,w2,w3]
  cases h
  exact q_ret rfl at_.at_ rfl (res1 rfl rfl) ⟨rfl,rfl⟩
 ·obtain ⟨p2,hp2,h⟩ := bindo h
  obtain ⟨p3,hp3,h⟩ := bindo h
  refine q_cond_f rfl (.tmp rfl) (bfalse hc1) (q_skipc rfl (qQ rfl (qR rfl rfl (qS 7 rfl (oM · rfl) (qS 8 rfl (oN · rfl hp2) (qS 9 rfl (oF · fi81_2 (by decide) rfl rfl) (qS 10 rfl (oL · sc78 rfl rfl (ldM_out hp3)) ?_)))))))
  try dsimp only [w0,w1,w2,w3]
  obtain ⟨p4,hp4,h⟩ := bindo h
  obtain ⟨p5,hp5,h⟩ := bindo h
  obtain ⟨p6,hp6,h⟩ := bindo h
  refine qS 11 rfl (oM · rfl) (qS 12 rfl (ok_lookup · tu78 zi87 (fun β => .ptrNil) (keyInt tu3) (.tmp rfl) (.tmp rfl) hp4 (dP_out hp5)) (q_call (dst := some 13) rfl (.func _) (.cons (.tmp rfl) Evs.nil) (HInv.static set_Set_string_All.at_ set_Set_string_All.body (set_Set_string_All.snd  hp6)) ?_))
  rintro _ _ ⟨rfl,rfl⟩
  refine qS 4 rfl (oA · rfl) (rE ?_)
  try dsimp only [w0,w1,w2,w3]
  cases h
  exact q_ret rfl at_.at_ rfl (res1 rfl rfl) ⟨rfl,rfl⟩
end
end pair_Rel_int_string_Of
namespace wish_Lists_Of_1
theorem at_ : FnAt Tryz.prog 42 Tryz.f42 := ⟨Tryz.func42,by kernel_rfl⟩
noncomputable def d0 := (Tryz.f42.body).getD .skip
noncomputable def r1 := kR (kA d0)
noncomputable def d4 := kA (kA (kB d0))
noncomputable def r5 := kR (kA d4)
noncomputable def r13 := kR (kA (kA (kA (kB (kB d4)))))
noncomputable def r15 := kR (kA (kB (kA (kA (kB (kB d4))))))
noncomputable def r19 := kR (kB (kB (kB d4)))
noncomputable def c4 : Code := .seq (.region 1 r5 false) (.seq (.cond (.tmp 8) .skip (.exit 0)) (.seq (.block 1 (.seq (.region 2 r13 false) (.seq (.region 3 r15 false) (.cond (.tmp 14) .ret .skip)))) (.region 4 r19 false)))
noncomputable def c0 : Code := .seq (.region 0 r1 false) (.block 0 (.loop c4))
theorem body : Tryz.f42.body = some c0 := by kernel_rfl
section
variable {base : Nat} {W0 : World} {β0 : Bt}
def L0 (D : Dp) (H : Hd) (k : Nat) : Nat → HV → Sl → Int → Int → HS → Option ((Unit) × HS)
 | 0,_,_,_,_,_ => none
 | n + 1,y0,y5,y6,y7,S =>
  (if y7 < y6 then
  (Option.bind (HS.idx S y5 y7 1) fun p4 =>
  (Option.bind (HS.ldS S p4) fun p5 =>
  (Option.bind (D H y0 [(.str p5)] S) fun p6 =>
  (Option.bind (dB p6.1) fun p7 =>
  (if (!p7) = true then
  some ((),p6.2) else
  (L0 D H k n) y0 y5 y6 (w64 (y7 + 1)) p6.2))))) else
  some ((),S))
theorem L0_snd {D : Dp} {H : Hd} {k : Nat} (hD : DSound Tryz.prog base W0 D) (hH : HSound Tryz.prog base W0 β0 H)  : ∀ {n : Nat} ⦃y0 : HV⦄ ⦃y5 : Sl⦄ ⦃y6 : Int⦄ ⦃y7 : Int⦄ ⦃S : HS⦄ ⦃p : (Unit) × HS⦄ ⦃Gb Gc Gd Ge Gi Gj Gk Gl Gm Gn Go Gp : HV⦄,L0 D H k n y0 y5 y6 y7 S = some p → HRun Tryz.prog base W0 β0 42 none [.inLoop c4,.inBlock 0] ⟨[y0,Gb,Gc,Gd,Ge,(Sl.hv y5),(.int .i64 y6),(.int .i64 y7),Gi,Gj,Gk,Gl,Gm,Gn,Go,Gp],[]⟩ S (fun v S1 => v = (.tup []) ∧ S1 = p.2) := by
 intro n
 induction n with
 | zero => intro _ _ _ _ _ _ _ _ _ _ _ _ _ _ _ _ _ _ h; cases h
 | succ n ih =>
  intro y0 y5 y6 y7 S p Gb Gc Gd Ge Gi Gj Gk Gl Gm Gn Go Gp h
  simp only [L0] at h
  refine hr_inLoop (qQ rfl (qR rfl rfl (qS 8 rfl (oB · rfl rfl rfl) (rE ?_))))
  try dsimp only [w0,w1,w2,w3]
  refine qQ rfl ?_
  rcases ifc h with ⟨hc3,h⟩ | ⟨hc3,h⟩
  ·obtain ⟨p4,hp4,h⟩ := bindo h
   obtain ⟨p5,hp5,h⟩ := bindo h
   refine q_cond_t rfl (.tmp rfl) (decide_eq_true hc3) (q_skipc rfl (qQ rfl (q_block rfl (qQ rfl (qR rfl rfl (qS 9 rfl (oX (s := y5) · tu38 sz9 rfl rfl hp4) (qS 10 rfl (oL · sc9 rfl rfl (ldS_out hp5)) (qS 4 rfl (oA · rfl) (rE ?_)))))))))
   try dsimp only [w0,w1,w2,w3]
   obtain ⟨p6,hp6,h⟩ := bindo h
   obtain ⟨p7,hp7,h⟩ := bindo h
   refine qQ rfl (qR rfl rfl (qS 11 rfl (oM · rfl) (qS 12 rfl (oM · rfl) (q_call (dst := some 13) rfl (.tmp rfl) (.cons (.tmp rfl) Evs.nil) (hD _ _ hH _ _ _ _ _ hp6) ?_))))
   rintro _ _ ⟨rfl,rfl⟩
   rw [dB_out hp7]
   refine qS 14 rfl (ok_not · (.tmp rfl)) (rE ?_)
   try dsimp only [w0,w1,w2,w3]
   rcases ifc h with ⟨hc8,h⟩ | ⟨hc8,h⟩
   ·cases h
    exact q_cond_t rfl (.tmp rfl) hc8 (q_ret rfl at_.at_ rfl (res0 rfl) ⟨rfl,rfl⟩)
   ·refine q_cond_f rfl (.tmp rfl) (bfalse hc8) (q_skipc rfl (hr_inBlock (qR rfl rfl (qS 15 rfl (oC · rfl rfl) (qS 7 rfl (oM · rfl) (rE ?_))))))
    try dsimp only [w0,w1,w2,w3]
    try dsimp only [w0,w1,w2,w3]
    exact ih h
  ·cases h
   exact q_cond_f rfl (.tmp rfl) (decide_eq_false hc3) (q_exit rfl rfl (q_end at_.at_ rfl (res0 rfl) ⟨rfl,rfl⟩))
def f (D : Dp) (H : Hd) (k : Nat) (x0 : HV) (x1 : (Option HA)) (S : HS) : Option ((Unit) × HS) :=
 (Option.bind (x1) fun p1 =>
 (Option.bind (HS.ldSl S p1) fun p2 =>
 L0 D H k k x0 p2 (Sl.len p2 : Int) 0 S))
theorem snd {D : Dp} {H : Hd} {k : Nat} {x0 : HV} {x1 : (Option HA)} {S : HS} (hD : DSound Tryz.prog base W0 D) (hH : HSound Tryz.prog base W0 β0 H)  {p : (Unit) × HS} (h : f D H k x0 x1 S = some p) : HCall Tryz.prog base W0 β0 42 [x0,(.ptr x1)] S (fun v S1 => v = (.tup []) ∧ S1 = p.2) := by
 unfold f at h
 refine HCall.of_run at_.at_ body ?_
 show HRun Tryz.prog base W0 β0 42 none [.code c0] ⟨[x0,(.ptr x1),τ,τ,τ,τ,τ,τ,τ,τ,τ,τ,τ,τ,τ,τ],[]⟩ S _
 obtain ⟨p1,hp1,h⟩ := bindo h
 obtain ⟨p2,hp2,h⟩ := bindo h
 refine qQ rfl (qR rfl rfl (qS 5 rfl (oL · sc38 rfl hp1 (ldSl_out hp2)) (qS 6 rfl (ok_len_sl (q := Sl.a p2) (n := Sl.len p2) (z := Sl.cap p2) · rfl tu38 (.tmp rfl)) (qS 7 rfl (ok_move · (.int _ _)) (rE ?_)))))
 try dsimp only [w0,w1,w2,w3]
 refine q_block rfl (q_loop rfl ?_)
 try dsimp only [w0,w1,w2,w3]
 exact L0_snd hD hH h
end
end wish_Lists_Of_1
namespace wish_Lists_Of
theorem at_ : FnAt Tryz.prog 27 Tryz.f27 := ⟨Tryz.func27,by kernel_rfl⟩
noncomputable def d0 := (Tryz.f27.body).getD .skip
noncomputable def r1 := kR (kA d0)
noncomputable def r3 := kR (kA (kB d0))
noncomputable def d5 := kA (kB (kB d0))
noncomputable def r6 := kR (kA d5)
noncomputable def r9 := kR (kA (kA (kB d5)))
noncomputable def r12 := kR (kA (kA (kB (kA (kB d5)))))
noncomputable def r14 := kR (kA (kB (kA (kB (kA (kB d5))))))
noncomputable def r17 := kR (kA (kB (kB (kB d0))))
noncomputable def c16 : Code := .seq (.region 6 r17 false) .ret
noncomputable def c13 : Code := .block 1 (.region 5 r14 true)
noncomputable def c12 : Code := .region 4 r12 false
noncomputable def c0 : Code := .seq (.region 0 r1 false) (.seq (.region 1 r3 false) (.seq (.seq (.region 2 r6 false) (.cond (.tmp 8) (.seq (.region 3 r9 true) (.block 0 (.rangeFunc (.tmp 14) #[15] c12 c13))) .skip)) c16))
theorem body : Tryz.f27.body = some c0 := by kernel_rfl
section
variable {base : Nat} {W0 : World} {β0 : Bt}
def J0 (D : Dp) (H : Hd) (l : Nat) (y2 : (Option HA)) (y3 : (Option HA)) (y5 : (Option HA)) (y15 : (List UInt8)) (S : HS) : Option (HV × HS) :=
 (Option.bind (HS.begin_ S l) fun p11 =>
 (Option.bind (y5) fun p12 =>
 (Option.bind (HS.ldSl p11 p12) fun p13 =>
 (Option.bind (y2) fun p14 =>
 (Option.bind (HS.ldP p11 p14) fun p15 =>
 (Option.bind (p15) fun p16 =>
 (Option.bind (HS.ldM p11 (HA.fld p16 1)) fun p17 =>
 (Option.bind (y3) fun p18 =>
 (Option.bind (HS.ldI p11 .i64 p18) fun p19 =>
 (Option.bind (HS.look p11 p17 (.agg [(.int .i64 p19),(.str y15)])) fun p20 =>
 (Option.bind (dS (Option.getD p20 (.str []))) fun p21 =>
 (letv (HS.lit p11 [[(.str p21)]] 1) fun p22 =>
 (Option.bind (HS.ldSl (p22.2) p12) fun p23 =>
 (if p23 = p13 then
 (Option.bind (HS.rows (p22.2) (p22.1) 1) fun p25 =>
 (Option.bind (HS.app (p22.2) p13 p25 1) fun p26 =>
 (Option.bind (y5) fun p27 =>
 (Option.bind (HS.sets (p26.2) p27 [(Sl.hv (p26.1))]) fun p28 =>
 (HS.endr p28 l none))))) else none))))))))))))))
theorem J0_snd {D : Dp} {H : Hd} {l : Nat} (hD : DSound Tryz.prog base W0 D) (hH : HSound Tryz.prog base W0 β0 H)  {y2 : (Option HA)} {y3 : (Option HA)} {y5 : (Option HA)} {y15 : (List UInt8)} {S : HS} {p : HV × HS} {Ga Gb Ge Gg Gh Gi Gj Gk Gl Gm Gn Go Gq Gr Gs Gt Gu Gv Gw Gx Gy Gz Ka Kb : HV} (h : J0 D H l y2 y3 y5 y15 S = some p) : HRun Tryz.prog base W0 β0 27 (some l) [.code c12,.beginRound,.code c13] ⟨[Ga,Gb,(.ptr y2),(.ptr y3),Ge,(.ptr y5),Gg,Gh,Gi,Gj,Gk,Gl,Gm,Gn,Go,(.str y15),Gq,Gr,Gs,Gt,Gu,Gv,Gw,Gx,Gy,Gz,Ka,Kb],[]⟩ S (fun v S1 => v = p.1 ∧ S1 = p.2) := by
 unfold J0 at h
 refine qR rfl rfl (qS 6 rfl (oA · rfl) (rE ?_))
 try dsimp only [w0,w1,w2,w3]
 obtain ⟨p11,hp11,h⟩ := bindo h
 refine q_begin hp11 ?_
 refine q_block rfl ?_
 refine x_start (cls := [3,1,0,0,1,1,0,0,1,2,2,2]) (rk := [0,1,2,3,4,5,6,7,8,9,10,11]) rfl (by kernel_rfl) ?_
 obtain ⟨p12,hp12,h⟩ := bindo h
 obtain ⟨p13,hp13,h⟩ := bindo h
 refine x_late (r_op (dst := some 16) (ts := [5]) rfl (by intro _ _ h; cases h) (by kernel_rfl) (fun _ ho => ok_load_s ho sc38 (.tmp rfl) hp12 (ldSl_out hp13))) rfl trivial ?_
 obtain ⟨p14,hp14,h⟩ := bindo h
 obtain ⟨p15,hp15,h⟩ := bindo h
 refine xr 17 [2] rfl (oL · sc25 rfl hp14 (ldP_out hp15)) ?_
 obtain ⟨p16,hp16,h⟩ := bindo h
 refine xf 18 [17] rfl (oN · rfl hp16) ?_
 refine xf 19 [18] rfl (oF · fi60_1 (by decide) rfl rfl) ?_
 try dsimp only [w0,w1,w2,w3]
 obtain ⟨p17,hp17,h⟩ := bindo h
 refine xr 20 [19] rfl (oL · sc58 rfl rfl (ldM_out hp17)) ?_
 obtain ⟨p18,hp18,h⟩ := bindo h
 obtain ⟨p19,hp19,h⟩ := bindo h
 refine xr 21 [3] rfl (oL · sc3 rfl hp18 (ldI_out hp19)) ?_
 refine xf 22 [6] rfl (oM · rfl) ?_
 refine xf 23 [21,22] rfl (ok_build (is := [0,1]) (xs := [(.tmp 21),(.tmp 22)]) (r := [(.int .i64 p19),(.str y15)]) st63 · rfl rfl (.cons (.tmp rfl) (.cons (.tmp rfl) Evs.nil)) rfl) ?_
 try dsimp only [w0,w1,w2,w3]
 obtain ⟨p20,hp20,h⟩ := bindo h
 obtain ⟨p21,hp21,h⟩ := bindo h
 refine xr 24 [20,23] rfl (ok_lookup · tu58 zi9 (fun β => .str []) (keyStruct sk63 rfl) (.tmp rfl) (.tmp rfl) hp20 (dS_out hp21)) ?_
 obtain ⟨p22,hp22,h⟩ := leto h
 obtain ⟨p23,hp23,h⟩ := bindo h
 obtain ⟨hg24,h⟩ := gd h
 refine ze 25 [24] rfl (ok_buildSlice_s (xs := [(.tmp 24)]) el38 · rfl rfl (by decide) (.cons (.tmp rfl) Evs.nil) rfl rfl hp22) ⟨.inr (l_op (dst := some 16) (ts := [5]) rfl (by intro _ _ h; cases h) (by kernel_rfl) (fun _ ho => ok_load_s ho sc38 (.tmp rfl) hp12 (ldSl_out (hp23.trans (congrArg some hg24))))),trivial⟩ ?_
 obtain ⟨p25,hp25,h⟩ := bindo h
 obtain ⟨p26,hp26,h⟩ := bindo h
 refine ze 26 [16,25] rfl (ok_append (s := p13) (s1 := (p22.1)) el38 · rfl rfl ⟨_,tu38⟩ (.tmp rfl) (.tmp rfl) hp25 hp26) ⟨.inl (by kernel_rfl),trivial⟩ ?_
 obtain ⟨p27,hp27,h⟩ := bindo h
 obtain ⟨p28,hp28,h⟩ := bindo h
 refine x_goE (e_op (dst := none) (ts := [5,26]) rfl (by intro _ _ h; cases h) (by kernel_rfl) (fun _ ho => ok_store_s (v := (Sl.hv (p26.1))) ho sz38 (.tmp rfl) hp27 (.tmp rfl) rfl hp28)) rfl ⟨.inl (by kernel_rfl),trivial⟩ ?_
 refine x_rest rfl ?_
 refine rE ?_
 try dsimp only [w0,w1,w2,w3]
 refine hr_inBlock ?_
 exact q_round_end h ⟨rfl,rfl⟩
def J1 (D : Dp) (H : Hd) (y5 : (Option HA)) (ds : List Nat) (S : HS) : Option ((HV) × HS) :=
 (Option.bind (HS.leave S ds) fun p36 =>
 some ((HV.fn (.func 42) [] [(.ptr y5)]),p36))
theorem J1_snd {D : Dp} {H : Hd} (hD : DSound Tryz.prog base W0 D) (hH : HSound Tryz.prog base W0 β0 H)  {y5 : (Option HA)} {ds : List Nat} {S : HS} {p : (HV) × HS} {Ga Gb Gc Gd Ge Gg Gh Gi Gj Gk Gl Gm Gn Go Gp Gq Gr Gs Gt Gu Gv Gw Gx Gy Gz Ka Kb : HV} (h : J1 D H y5 ds S = some p) : HRun Tryz.prog base W0 β0 27 none [.code c16] ⟨[Ga,Gb,Gc,Gd,Ge,(.ptr y5),Gg,Gh,Gi,Gj,Gk,Gl,Gm,Gn,Go,Gp,Gq,Gr,Gs,Gt,Gu,Gv,Gw,Gx,Gy,Gz,Ka,Kb],ds⟩ S (fun v S1 => v = p.1 ∧ S1 = p.2) := by
 unfold J1 at h
 refine qQ rfl (qR rfl rfl (qS 27 rfl (ok_makeFunc · Evs.nil (.cons (.tmp rfl) Evs.nil)) (qS 4 rfl (oA · rfl) (rE ?_))))
 try dsimp only [w0,w1,w2,w3]
 obtain ⟨p36,hp36,h⟩ := bindo h
 cases h
 exact q_ret rfl at_.at_ hp36 (res1 rfl rfl) ⟨rfl,rfl⟩
def f (D : Dp) (H : Hd) (x0 : (Option HA)) (x1 : Int) (S : HS) : Option ((HV) × HS) :=
 (letv (HS.new S (.cells 1 [[(.ptr x0)]] true)) fun p1 =>
 (letv (HS.new p1 (.cells 1 [[(.int .i64 x1)]] true)) fun p2 =>
 (letv (HS.new p2 (.cells 1 [[(Sl.hv Sl.nil)]] true)) fun p3 =>
 (Option.bind (HS.ldP p3 (HA.cell0 S.next)) fun p4 =>
 (if (!Option.isNone p4) = true then
 (Option.bind (HS.ldP p3 (HA.cell0 S.next)) fun p6 =>
 (Option.bind (p6) fun p7 =>
 (Option.bind (HS.ldP p3 (HA.fld p7 0)) fun p8 =>
 (Option.bind (HS.ldI p3 .i64 (HA.cell0 p1.next)) fun p9 =>
 (Option.bind (pair_Rel_int_string_Of.f p8 p9 p3) fun p10 =>
 (Option.bind (D (Hd.set H (HS.next p10.2 + 1) fun vs T =>
 (Option.bind (HS.lp T (HS.next p10.2 + 1)) fun u31 =>
 (Option.bind (args1 vs) fun ar29 =>
 (Option.bind (dS ar29) fun p30 =>
 (J0 D H (HS.next p10.2 + 1) (some (HA.cell0 S.next)) (some (HA.cell0 p1.next)) (some (HA.cell0 p2.next)) p30 T))))) p10.1 [.fn (.yield (HS.next p10.2 + 1)) [] []] (HS.new (HS.new p10.2 .defer) (.loop .ready none))) fun p32 =>
 (Option.bind (HS.finish p32.2 (HS.next p10.2 + 1)) fun p33 =>
 (Option.bind (pcode p33.1) fun n34 =>
 (if n34 = 0 then
 J1 D H (some (HA.cell0 p2.next)) (HS.next p10.2 :: []) p33.2 else
 none))))))))) else
 J1 D H (some (HA.cell0 p2.next)) [] p3)))))
theorem snd {D : Dp} {H : Hd} {x0 : (Option HA)} {x1 : Int} {S : HS} (hD : DSound Tryz.prog base W0 D) (hH : HSound Tryz.prog base W0 β0 H)  {p : (HV) × HS} (h : f D H x0 x1 S = some p) : HCall Tryz.prog base W0 β0 27 [(.ptr x0),(.int .i64 x1)] S (fun v S1 => v = p.1 ∧ S1 = p.2) := by
 unfold f at h
 refine HCall.of_run at_.at_ body ?_
 show HRun Tryz.prog base W0 β0 27 none [.code c0] ⟨[(.ptr x0),(.int .i64 x1),τ,τ,τ,τ,τ,τ,τ,τ,τ,τ,τ,τ,τ,τ,τ,τ,τ,τ,τ,τ,τ,τ,τ,τ,τ,τ],[]⟩ S _
 obtain ⟨p1,hp1,h⟩ := leto h
 obtain ⟨p2,hp2,h⟩ := leto h
 refine qQ rfl (qR rfl rfl (qS 2 rfl (ok_box_e · (.tmp rfl) (Nat.zero_lt_succ _) rfl hp1) (qS 3 rfl (ok_box_e · (.tmp rfl) (Nat.zero_lt_succ _) rfl hp2) (qS 4 rfl (ok_assign · (.const fun _ => .nilFn)) (rE ?_)))))
 try dsimp only [w0,w1,w2,w3]
 obtain ⟨p3,hp3,h⟩ := leto h
 refine qQ rfl (qR rfl rfl (qS 5 rfl (ok_alloc_e · zi38 zr38 (by decide) rfl hp3) (rE ?_)))
 try dsimp only [w0,w1,w2,w3]
 obtain ⟨p4,hp4,h⟩ := bindo h
 refine qQ rfl (qQ rfl (qR rfl rfl (qS 7 rfl (oL · sc25 rfl rfl (ldP_out hp4)) (qS 8 rfl (ok_nil_ptr · tu25 (.tmp rfl) (.inr ⟨rfl,rfl⟩)) (rE ?_)))))
 try dsimp only [w0,w1,w2,w3]
 rcases ifc h with ⟨hc5,h⟩ | ⟨hc5,h⟩
 ·refine q_cond_t rfl (.tmp rfl) hc5 (qQ rfl ?_)
  refine x_start (cls := [1,0,0,1,1,2]) (rk := [0,1,2,3,4,5]) rfl (by kernel_rfl) ?_
  obtain ⟨p6,hp6,h⟩ := bindo h
  refine yr 9 [2] rfl (oL · sc25 rfl rfl (ldP_out hp6)) ?_
  obtain ⟨p7,hp7,h⟩ := bindo h
  refine yf 10 [9] rfl (oN · rfl hp7) ?_
  refine yf 11 [10] rfl (oF · fi60_0 (by decide) rfl rfl) ?_
  obtain ⟨p8,hp8,h⟩ := bindo h
  refine yr 12 [11] rfl (oL · sc55 rfl rfl (ldP_out hp8)) ?_
  try dsimp only [w0,w1,w2,w3]
  obtain ⟨p9,hp9,h⟩ := bindo h
  refine yr 13 [3] rfl (oL · sc3 rfl rfl (ldI_out hp9)) ?_
  obtain ⟨p10,hp10,h⟩ := bindo h
  refine x_go (e_call (dst := some 14) (ts := [12,13]) rfl (by kernel_rfl) (.func _) (.cons (.tmp rfl) (.cons (.tmp rfl) Evs.nil)) (HInv.static pair_Rel_int_string_Of.at_ pair_Rel_int_string_Of.body (pair_Rel_int_string_Of.snd  hp10))) rfl ?_
  refine x_rest rfl ?_
  refine rE ?_
  try dsimp only [w0,w1,w2,w3]
  obtain ⟨p32,hp32,h⟩ := bindo h
  obtain ⟨p33,hp33,h⟩ := bindo h
  obtain ⟨n34,hn34,h⟩ := bindo h
  refine q_block rfl ?_
  refine q_range (D := D) (H := H) rfl (.tmp rfl) hD hH hp32 hp33 ?_ ?_
  ·intro β1 hle hLA vs T u T' hr
   obtain ⟨u31,hu31,hr⟩ := bindo hr
   obtain ⟨ar29,har29,hr⟩ := bindo hr
   obtain ⟨p30,hp30,hr⟩ := bindo hr
   rw [args1_out har29]
   refine q_yield2 hLA hu31 rfl rfl ?_
   rw [dS_out hp30]
   simp only [HAct.params,List.set_cons_zero,List.set_cons_succ]
   exact J0_snd hD (hH.up hle) hr
  ·rcases ifc h with ⟨hc35,h⟩ | ⟨hc35,h⟩
   ·rw [pcode0 hn34 hc35]
    simp only [jumped_none,jumped_some]
    refine hr_inBlock ?_
    try dsimp only [w0,w1,w2,w3]
    exact J1_snd hD hH h
   ·cases h
 ·refine q_cond_f rfl (.tmp rfl) (bfalse hc5) (q_skipc rfl ?_)
  try dsimp only [w0,w1,w2,w3]
  exact J1_snd hD hH h
end
end wish_Lists_Of
namespace wish_Lists_Clear
theorem at_ : FnAt Tryz.prog 9 Tryz.f9 := ⟨Tryz.func9,by kernel_rfl⟩
noncomputable def d0 := (Tryz.f9.body).getD .skip
noncomputable def r1 := kR (kA d0)
noncomputable def r3 := kR (kA (kB d0))
noncomputable def d5 := kA (kB (kB d0))
noncomputable def r6 := kR (kA d5)
noncomputable def r9 := kR (kA (kA (kB d5)))
noncomputable def r12 := kR (kA (kA (kB (kA (kB d5)))))
noncomputable def r13 := kR (kB (kA (kB (kA (kB d5)))))
noncomputable def r15 := kR (kA (kB (kB (kB d0))))
noncomputable def c10 : Code := .block 1 (.seq (.region 4 r12 false) (.region 5 r13 false))
noncomputable def c9 : Code := .region 3 r9 false
noncomputable def c0 : Code := .seq (.region 0 r1 false) (.seq (.region 1 r3 false) (.seq (.seq (.region 2 r6 false) (.block 0 (.rangeFunc (.tmp 9) #[10] c9 c10))) (.seq (.region 6 r15 false) .ret)))
theorem body : Tryz.f9.body = some c0 := by kernel_rfl
section
variable {base : Nat} {W0 : World} {β0 : Bt}
def J0 (D : Dp) (H : Hd) (k : Nat) (l : Nat) (y2 : (Option HA)) (y3 : (Option HA)) (y5 : (Option HA)) (y10 : (List UInt8)) (S : HS) : Option (HV × HS) :=
 (Option.bind (HS.begin_ S l) fun p8 =>
 (Option.bind (y2) fun p9 =>
 (Option.bind (HS.ldP p8 p9) fun p10 =>
 (Option.bind (y3) fun p11 =>
 (Option.bind (HS.ldI p8 .i64 p11) fun p12 =>
 (Option.bind (wish_Lists_Remove.f k p10 p12 y10 p8) fun p13 =>
 (Option.bind (y5) fun p14 =>
 (Option.bind (HS.ldI p13.2 .i64 p14) fun p15 =>
 (Option.bind (y5) fun p16 =>
 (Option.bind (HS.sets p13.2 p16 [(.int .i64 (w64 (p15 + 1)))]) fun p17 =>
 (HS.endr p17 l none)))))))))))
theorem J0_snd {D : Dp} {H : Hd} {k : Nat} {l : Nat} (hD : DSound Tryz.prog base W0 D) (hH : HSound Tryz.prog base W0 β0 H)  {y2 : (Option HA)} {y3 : (Option HA)} {y5 : (Option HA)} {y10 : (List UInt8)} {S : HS} {p : HV × HS} {Ga Gb Ge Gg Gh Gi Gj Gl Gm Gn Go Gp Gq Gr : HV} (h : J0 D H k l y2 y3 y5 y10 S = some p) : HRun Tryz.prog base W0 β0 9 (some l) [.code c9,.beginRound,.code c10] ⟨[Ga,Gb,(.ptr y2),(.ptr y3),Ge,(.ptr y5),Gg,Gh,Gi,Gj,(.str y10),Gl,Gm,Gn,Go,Gp,Gq,Gr],[]⟩ S (fun v S1 => v = p.1 ∧ S1 = p.2) := by
 unfold J0 at h
 refine qR rfl rfl (qS 6 rfl (oA · rfl) (rE ?_))
 try dsimp only [w0,w1,w2,w3]
 obtain ⟨p8,hp8,h⟩ := bindo h
 refine q_begin hp8 ?_
 obtain ⟨p9,hp9,h⟩ := bindo h
 obtain ⟨p10,hp10,h⟩ := bindo h
 obtain ⟨p11,hp11,h⟩ := bindo h
 obtain ⟨p12,hp12,h⟩ := bindo h
 obtain ⟨p13,hp13,h⟩ := bindo h
 refine q_block rfl (qQ rfl (qR rfl rfl (qS 11 rfl (oL · sc25 rfl hp9 (ldP_out hp10)) (qS 12 rfl (oL · sc3 rfl hp11 (ldI_out hp12)) (qS 13 rfl (oM · rfl) (q_call (dst := some 14) rfl (.func _) (.cons (.tmp rfl) (.cons (.tmp rfl) (.cons (.tmp rfl) Evs.nil))) (HInv.static wish_Lists_Remove.at_ wish_Lists_Remove.body (wish_Lists_Remove.snd  hp13)) ?_))))))
 rintro _ _ ⟨rfl,rfl⟩
 refine rE ?_
 try dsimp only [w0,w1,w2,w3]
 obtain ⟨p14,hp14,h⟩ := bindo h
 obtain ⟨p15,hp15,h⟩ := bindo h
 obtain ⟨p16,hp16,h⟩ := bindo h
 obtain ⟨p17,hp17,h⟩ := bindo h
 refine qR rfl rfl (qS 15 rfl (oL · sc3 rfl hp14 (ldI_out hp15)) (qS 16 rfl (oC · rfl rfl) (qN rfl (ok_store_s (v := (.int .i64 (w64 (p15 + 1)))) · sz3 (.tmp rfl) hp16 (.tmp rfl) rfl hp17) (rE ?_))))
 try dsimp only [w0,w1,w2,w3]
 refine hr_inBlock ?_
 exact q_round_end h ⟨rfl,rfl⟩
def f (D : Dp) (H : Hd) (k : Nat) (x0 : (Option HA)) (x1 : Int) (S : HS) : Option ((Int) × HS) :=
 (letv (HS.new S (.cells 1 [[(.ptr x0)]] true)) fun p1 =>
 (letv (HS.new p1 (.cells 1 [[(.int .i64 x1)]] true)) fun p2 =>
 (letv (HS.new p2 (.cells 1 [[(.int .i64 0)]] true)) fun p3 =>
 (Option.bind (HS.sets p3 (HA.cell0 p2.next) [(.int .i64 0)]) fun p4 =>
 (Option.bind (HS.ldP p4 (HA.cell0 S.next)) fun p5 =>
 (Option.bind (HS.ldI p4 .i64 (HA.cell0 p1.next)) fun p6 =>
 (Option.bind (wish_Lists_Of.f D H p5 p6 p4) fun p7 =>
 (Option.bind (D (Hd.set H (HS.next p7.2 + 1) fun vs T =>
 (Option.bind (HS.lp T (HS.next p7.2 + 1)) fun u20 =>
 (Option.bind (args1 vs) fun ar18 =>
 (Option.bind (dS ar18) fun p19 =>
 (J0 D H k (HS.next p7.2 + 1) (some (HA.cell0 S.next)) (some (HA.cell0 p1.next)) (some (HA.cell0 p2.next)) p19 T))))) p7.1 [.fn (.yield (HS.next p7.2 + 1)) [] []] (HS.new (HS.new p7.2 .defer) (.loop .ready none))) fun p21 =>
 (Option.bind (HS.finish p21.2 (HS.next p7.2 + 1)) fun p22 =>
 (Option.bind (pcode p22.1) fun n23 =>
 (if n23 = 0 then
 (Option.bind (HS.ldI p22.2 .i64 (HA.cell0 p2.next)) fun p25 =>
 (Option.bind (HS.leave p22.2 (HS.next p7.2 :: [])) fun p26 =>
 some (p25,p26))) else
 none)))))))))))
theorem snd {D : Dp} {H : Hd} {k : Nat} {x0 : (Option HA)} {x1 : Int} {S : HS} (hD : DSound Tryz.prog base W0 D) (hH : HSound Tryz.prog base W0 β0 H)  {p : (Int) × HS} (h : f D H k x0 x1 S = some p) : HCall Tryz.prog base W0 β0 9 [(.ptr x0),(.int .i64 x1)] S (fun v S1 => v = (.int .i64 p.1) ∧ S1 = p.2) := by
 unfold f at h
 refine HCall.of_run at_.at_ body ?_
 show HRun Tryz.prog base W0 β0 9 none [.code c0] ⟨[(.ptr x0),(.int .i64 x1),τ,τ,τ,τ,τ,τ,τ,τ,τ,τ,τ,τ,τ,τ,τ,τ],[]⟩ S _
 obtain ⟨p1,hp1,h⟩ := leto h
 obtain ⟨p2,hp2,h⟩ := leto h
 refine qQ rfl (qR rfl rfl (qS 2 rfl (ok_box_e · (.tmp rfl) (Nat.zero_lt_succ _) rfl hp1) (qS 3 rfl (ok_box_e · (.tmp rfl) (Nat.zero_lt_succ _) rfl hp2) (qS 4 rfl (ok_assign · (.int _ _)) (rE ?_)))))
 try dsimp only [w0,w1,w2,w3]
 obtain ⟨p3,hp3,h⟩ := leto h
 obtain ⟨p4,hp4,h⟩ := bindo h
 refine qQ rfl (qR rfl rfl (qS 5 rfl (ok_alloc_e · zi3 zr3 (by decide) rfl hp3) (qN rfl (ok_store_s (v := (.int .i64 0)) · sz3 (.tmp rfl) rfl (.int _ _) rfl hp4) (rE ?_))))
 try dsimp only [w0,w1,w2,w3]
 obtain ⟨p5,hp5,h⟩ := bindo h
 obtain ⟨p6,hp6,h⟩ := bindo h
 obtain ⟨p7,hp7,h⟩ := bindo h
 refine qQ rfl (qQ rfl (qR rfl rfl (qS 7 rfl (oL · sc25 rfl rfl (ldP_out hp5)) (qS 8 rfl (oL · sc3 rfl rfl (ldI_out hp6)) (q_call (dst := some 9) rfl (.func _) (.cons (.tmp rfl) (.cons (.tmp rfl) Evs.nil)) (HInv.static wish_Lists_Of.at_ wish_Lists_Of.body (wish_Lists_Of.snd hD hH hp7)) ?_)))))
 rintro _ _ ⟨rfl,rfl⟩
 refine rE ?_
 try dsimp only [w0,w1,w2,w3]
 obtain ⟨p21,hp21,h⟩ := bindo h
 obtain ⟨p22,hp22,h⟩ := bindo h
 obtain ⟨n23,hn23,h⟩ := bindo h
 refine q_block rfl ?_
 refine q_range (D := D) (H := H) rfl (.tmp rfl) hD hH hp21 hp22 ?_ ?_
 ·intro β1 hle hLA vs T u T' hr
  obtain ⟨u20,hu20,hr⟩ := bindo hr
  obtain ⟨ar18,har18,hr⟩ := bindo hr
  obtain ⟨p19,hp19,hr⟩ := bindo hr
  rw [args1_out har18]
  refine q_yield2 hLA hu20 rfl rfl ?_
  rw [dS_out hp19]
  simp only [HAct.params,List.set_cons_zero,List.set_cons_succ]
  exact J0_snd hD (hH.up hle) hr
 ·rcases ifc h with ⟨hc24,h⟩ | ⟨hc24,h⟩
  ·rw [pcode0 hn23 hc24]
   simp only [jumped_none,jumped_some]
   obtain ⟨p25,hp25,h⟩ := bindo h
   refine hr_inBlock (qQ rfl (qR rfl rfl (qS 17 rfl (oL · sc3 rfl rfl (ldI_out hp25)) (qS 4 rfl (oA · rfl) (rE ?_)))))
   try dsimp only [w0,w1,w2,w3]
   obtain ⟨p26,hp26,h⟩ := bindo h
   cases h
   exact q_ret rfl at_.at_ hp26 (res1 rfl rfl) ⟨rfl,rfl⟩
  ·cases h
end
end wish_Lists_Clear
namespace rollcallref01_Compare
theorem at_ : FnAt Tryz.prog 33 Tryz.f33 := ⟨Tryz.func33,by kernel_rfl⟩
noncomputable def d0 := (Tryz.f33.body).getD .skip
noncomputable def r1 := kR (kA d0)
noncomputable def r3 := kR (kA (kB d0))
noncomputable def r5 := kR (kA (kB (kB d0)))
noncomputable def d6 := kB (kB (kB d0))
noncomputable def r8 := kR (kA (kA d6))
noncomputable def r11 := kR (kA (kA (kB (kA d6))))
noncomputable def r16 := kR (kA (kA (kB d6)))
noncomputable def r19 := kR (kA (kA (kB (kA (kB d6)))))
noncomputable def r23 := kR (kA (kB (kB d6)))
noncomputable def c0 : Code := .seq (.region 0 r1 false) (.seq (.region 1 r3 false) (.seq (.region 2 r5 false) (.seq (.seq (.region 3 r8 false) (.cond (.tmp 13) (.seq (.region 4 r11 false) .ret) .skip)) (.seq (.seq (.region 5 r16 false) (.cond (.tmp 16) (.seq (.region 6 r19 false) .ret) .skip)) (.seq (.region 7 r23 false) .ret)))))
theorem body : Tryz.f33.body = some c0 := by kernel_rfl
section
variable {base : Nat} {W0 : World} {β0 : Bt}
def f (k : Nat) (x0 : (List UInt8)) (x1 : (List UInt8)) (S : HS) : Option ((Int) × HS) :=
 (Option.bind (rollcallref01_Text.f k x0 S) fun p1 =>
 (Option.bind (rollcallref01_Text.f k x1 p1.2) fun p2 =>
 (if (slt p1.1 p2.1) = true then
 some ((-1),p2.2) else
 (if (!(slt p1.1 p2.1 || decide (p1.1 = p2.1))) = true then
 some (1,p2.2) else
 some (0,p2.2)))))
theorem snd {k : Nat} {x0 : (List UInt8)} {x1 : (List UInt8)} {S : HS}  {p : (Int) × HS} (h : f k x0 x1 S = some p) : HCall Tryz.prog base W0 β0 33 [(.str x0),(.str x1)] S (fun v S1 => v = (.int .i64 p.1) ∧ S1 = p.2) := by
 unfold f at h
 refine HCall.of_run at_.at_ body ?_
 show HRun Tryz.prog base W0 β0 33 none [.code c0] ⟨[(.str x0),(.str x1),τ,τ,τ,τ,τ,τ,τ,τ,τ,τ,τ,τ,τ,τ,τ],[]⟩ S _
 refine qQ rfl (qR rfl rfl (qS 4 rfl (ok_assign · (.int _ _)) (rE ?_)))
 try dsimp only [w0,w1,w2,w3]
 obtain ⟨p1,hp1,h⟩ := bindo h
 refine qQ rfl (qR rfl rfl (qS 7 rfl (oM · rfl) (q_call (dst := some 8) rfl (.func _) (.cons (.tmp rfl) Evs.nil) (HInv.static rollcallref01_Text.at_ rollcallref01_Text.body (rollcallref01_Text.snd  hp1)) ?_)))
 rintro _ _ ⟨rfl,rfl⟩
 refine qS 5 rfl (oA · rfl) (rE ?_)
 try dsimp only [w0,w1,w2,w3]
 obtain ⟨p2,hp2,h⟩ := bindo h
 refine qQ rfl (qR rfl rfl (qS 9 rfl (oM · rfl) (q_call (dst := some 10) rfl (.func _) (.cons (.tmp rfl) Evs.nil) (HInv.static rollcallref01_Text.at_ rollcallref01_Text.body (rollcallref01_Text.snd  hp2)) ?_)))
 rintro _ _ ⟨rfl,rfl⟩
 refine qS 6 rfl (oA · rfl) (rE ?_)
 try dsimp only [w0,w1,w2,w3]
 refine qQ rfl (qQ rfl (qR rfl rfl (qS 11 rfl (oM · rfl) (qS 12 rfl (oM · rfl) (qS 13 rfl (ok_sbin · (.tmp rfl) (.tmp rfl) rfl) (rE ?_))))))
 try dsimp only [w0,w1,w2,w3]
 rcases ifc h with ⟨hc3,h⟩ | ⟨hc3,h⟩
 ·refine q_cond_t rfl (.tmp rfl) hc3 (qQ rfl (qR rfl rfl (qS 4 rfl (ok_assign · (.int _ _)) (rE ?_))))
  try dsimp only [w0,w1,w2,w3]
  cases h
  exact q_ret rfl at_.at_ rfl (res1 rfl rfl) ⟨rfl,rfl⟩
 ·refine q_cond_f rfl (.tmp rfl) (bfalse hc3) (q_skipc rfl (qQ rfl (qQ rfl (qR rfl rfl (qS 14 rfl (oM · rfl) (qS 15 rfl (oM · rfl) (qS 16 rfl (ok_sbin · (.tmp rfl) (.tmp rfl) rfl) (rE ?_))))))))
  try dsimp only [w0,w1,w2,w3]
  rcases ifc h with ⟨hc4,h⟩ | ⟨hc4,h⟩
  ·refine q_cond_t rfl (.tmp rfl) hc4 (qQ rfl (qR rfl rfl (qS 4 rfl (ok_assign · (.int _ _)) (rE ?_))))
   try dsimp only [w0,w1,w2,w3]
   cases h
   exact q_ret rfl at_.at_ rfl (res1 rfl rfl) ⟨rfl,rfl⟩
  ·refine q_cond_f rfl (.tmp rfl) (bfalse hc4) (q_skipc rfl (qQ rfl (qR rfl rfl (qS 4 rfl (ok_assign · (.int _ _)) (rE ?_)))))
   try dsimp only [w0,w1,w2,w3]
   cases h
   exact q_ret rfl at_.at_ rfl (res1 rfl rfl) ⟨rfl,rfl⟩
end
end rollcallref01_Compare
namespace rollcallref21_Lists_Of
theorem at_ : FnAt Tryz.prog 19 Tryz.f19 := ⟨Tryz.func19,by kernel_rfl⟩
noncomputable def d0 := (Tryz.f19.body).getD .skip
noncomputable def r1 := kR (kA d0)
noncomputable def r3 := kR (kA (kB d0))
noncomputable def d5 := kA (kB (kB d0))
noncomputable def r6 := kR (kA d5)
noncomputable def d9 := kA (kA (kB d5))
noncomputable def r11 := kR (kA (kA d9))
noncomputable def d17 := kA (kA (kB d9))
noncomputable def r19 := kR (kA (kA d17))
noncomputable def r24 := kR (kA (kB d17))
noncomputable def d28 := kA (kA (kA (kB (kB d17))))
noncomputable def r30 := kR (kA (kA d28))
noncomputable def r35 := kR (kA (kB d28))
noncomputable def d36 := kB (kB (kB d17))
noncomputable def r37 := kR (kA d36)
noncomputable def r39 := kR (kA (kB d36))
noncomputable def r41 := kR (kA (kB (kB d36)))
noncomputable def r42 := kR (kB (kB (kB d36)))
noncomputable def r43 := kR (kB (kB d9))
noncomputable def r45 := kR (kA (kB (kB (kB d0))))
noncomputable def c44 : Code := .seq (.region 13 r45 false) .ret
noncomputable def c43 : Code := .region 4 r43 false
noncomputable def c36 : Code := .seq (.region 9 r37 false) (.seq (.region 10 r39 false) (.seq (.region 11 r41 false) (.region 12 r42 false)))
noncomputable def c34 : Code := .block 3 (.region 8 r35 false)
noncomputable def c31 : Code := .cond (.tmp 48) .skip (.exit 2)
noncomputable def c28 : Code := .seq (.seq (.region 7 r30 true) c31) c34
noncomputable def c9 : Code := .seq (.seq (.region 3 r11 false) (.cond (.tmp 15) .skip (.exit 0))) (.seq (.block 1 (.seq (.seq (.region 5 r19 false) (.cond (.tmp 27) (.exit 1) .skip)) (.seq (.region 6 r24 false) (.seq (.block 2 (.loop c28)) c36)))) c43)
noncomputable def c0 : Code := .seq (.region 0 r1 false) (.seq (.region 1 r3 false) (.seq (.seq (.region 2 r6 false) (.block 0 (.loop c9))) c44))
theorem body : Tryz.f19.body = some c0 := by kernel_rfl
section
variable {base : Nat} {W0 : World} {β0 : Bt}
def J1 (k : Nat) (rec0 : (Option HA) → Int → Sl → Int → HS → Option ((Sl) × HS)) (y0 : (Option HA)) (y1 : Int) (y5 : Sl) (y6 : Int) (S : HS) : Option ((Sl) × HS) :=
 rec0 y0 y1 y5 (w64 (y6 + 1)) S
theorem J1_snd {k : Nat} {rec0 : (Option HA) → Int → Sl → Int → HS → Option ((Sl) × HS)} (hrec0 : ∀ ⦃y0 : (Option HA)⦄ ⦃y1 : Int⦄ ⦃y5 : Sl⦄ ⦃y6 : Int⦄ ⦃S : HS⦄ ⦃p : (Sl) × HS⦄ ⦃Gc Gd Ge Gh Gi Gj Gk Gl Gm Gn Go Gp Gq Gr Gs Gt Gu Gv Gw Gx Gy Gz Ka Kb Kc Kd Ke Kf Kg Kh Ki Kj Kk Kl Km Kn Ko Kp Kq Kr Ks Kt Ku Kv Kw Kx Ky Kz Ma Mb Mc Md Me Mf Mg Mh Mi Mj Mk Ml Mm Mn Mo Mp Mq Mr Ms Mt Mu : HV⦄,rec0 y0 y1 y5 y6 S = some p → HRun Tryz.prog base W0 β0 19 none [.inLoop c9,.inBlock 0,.code c44] ⟨[(.ptr y0),(.int .i64 y1),Gc,Gd,Ge,(Sl.hv y5),(.int .i64 y6),Gh,Gi,Gj,Gk,Gl,Gm,Gn,Go,Gp,Gq,Gr,Gs,Gt,Gu,Gv,Gw,Gx,Gy,Gz,Ka,Kb,Kc,Kd,Ke,Kf,Kg,Kh,Ki,Kj,Kk,Kl,Km,Kn,Ko,Kp,Kq,Kr,Ks,Kt,Ku,Kv,Kw,Kx,Ky,Kz,Ma,Mb,Mc,Md,Me,Mf,Mg,Mh,Mi,Mj,Mk,Ml,Mm,Mn,Mo,Mp,Mq,Mr,Ms,Mt,Mu],[]⟩ S (fun v S1 => v = (Sl.hv p.1) ∧ S1 = p.2)) {y0 : (Option HA)} {y1 : Int} {y5 : Sl} {y6 : Int} {S : HS} {p : (Sl) × HS} {Gc Gd Ge Gh Gi Gj Gk Gl Gm Gn Go Gp Gq Gr Gs Gt Gu Gv Gw Gx Gy Gz Ka Kb Kc Kd Ke Kf Kg Kh Ki Kj Kk Kl Km Kn Ko Kp Kq Kr Ks Kt Ku Kv Kw Kx Ky Kz Ma Mb Mc Md Me Mf Mg Mh Mi Mj Mk Ml Mm Mn Mo Mp Mq Mr Ms Mt Mu : HV} (h : J1 k rec0 y0 y1 y5 y6 S = some p) : HRun Tryz.prog base W0 β0 19 none [.code c43,.inLoop c9,.inBlock 0,.code c44] ⟨[(.ptr y0),(.int .i64 y1),Gc,Gd,Ge,(Sl.hv y5),(.int .i64 y6),Gh,Gi,Gj,Gk,Gl,Gm,Gn,Go,Gp,Gq,Gr,Gs,Gt,Gu,Gv,Gw,Gx,Gy,Gz,Ka,Kb,Kc,Kd,Ke,Kf,Kg,Kh,Ki,Kj,Kk,Kl,Km,Kn,Ko,Kp,Kq,Kr,Ks,Kt,Ku,Kv,Kw,Kx,Ky,Kz,Ma,Mb,Mc,Md,Me,Mf,Mg,Mh,Mi,Mj,Mk,Ml,Mm,Mn,Mo,Mp,Mq,Mr,Ms,Mt,Mu],[]⟩ S (fun v S1 => v = (Sl.hv p.1) ∧ S1 = p.2) := by
 unfold J1 at h
 refine qR rfl rfl (qS 16 rfl (oM · rfl) (qS 17 rfl (oC · rfl rfl) (qS 6 rfl (oA · rfl) (rE ?_))))
 try dsimp only [w0,w1,w2,w3]
 try dsimp only [w0,w1,w2,w3]
 exact hrec0 h
def J3 (k : Nat) (rec0 : (Option HA) → Int → Sl → Int → Int → HS → Option ((Sl) × HS)) (rec1 : (Option HA) → Int → Sl → Int → HS → Option ((Sl) × HS)) (y0 : (Option HA)) (y1 : Int) (y5 : Sl) (y6 : Int) (y7 : Int) (y48 : Bool) (S : HS) : Option ((Sl) × HS) :=
 (if y48 = true then
 rec0 y0 y1 y5 y6 (w64 (y7 - 1)) S else
 (Option.bind (HS.cut S y5 0 y7 1) fun p18 =>
 (Option.bind (HS.rows S p18 1) fun p19 =>
 (Option.bind (HS.app S Sl.nil p19 1) fun p20 =>
 (Option.bind (y0) fun p21 =>
 (Option.bind (HS.ldSl (p20.2) (HA.fld p21 1)) fun p22 =>
 (Option.bind (HS.idx (p20.2) p22 y6 2) fun p23 =>
 (Option.bind (HS.ldS (p20.2) (HA.fld p23 1)) fun p24 =>
 (letv (HS.lit (p20.2) [[(.str p24)]] 1) fun p25 =>
 (Option.bind (HS.rows (p25.2) (p25.1) 1) fun p26 =>
 (Option.bind (HS.app (p25.2) (p20.1) p26 1) fun p27 =>
 (Option.bind (HS.cut (p27.2) y5 y7 (Sl.len y5 : Int) 1) fun p28 =>
 (Option.bind (HS.rows (p27.2) p28 1) fun p29 =>
 (Option.bind (HS.app (p27.2) (p27.1) p29 1) fun p30 =>
 J1 k rec1 y0 y1 (p30.1) y6 (p30.2)))))))))))))))
theorem J3_snd {k : Nat} {rec0 : (Option HA) → Int → Sl → Int → Int → HS → Option ((Sl) × HS)} {rec1 : (Option HA) → Int → Sl → Int → HS → Option ((Sl) × HS)} (hrec0 : ∀ ⦃y0 : (Option HA)⦄ ⦃y1 : Int⦄ ⦃y5 : Sl⦄ ⦃y6 : Int⦄ ⦃y7 : Int⦄ ⦃S : HS⦄ ⦃p : (Sl) × HS⦄ ⦃Gc Gd Ge Gi Gj Gk Gl Gm Gn Go Gp Gq Gr Gs Gt Gu Gv Gw Gx Gy Gz Ka Kb Kc Kd Ke Kf Kg Kh Ki Kj Kk Kl Km Kn Ko Kp Kq Kr Ks Kt Ku Kv Kw Kx Ky Kz Ma Mb Mc Md Me Mf Mg Mh Mi Mj Mk Ml Mm Mn Mo Mp Mq Mr Ms Mt Mu : HV⦄,rec0 y0 y1 y5 y6 y7 S = some p → HRun Tryz.prog base W0 β0 19 none [.inLoop c28,.inBlock 2,.code c36,.inBlock 1,.code c43,.inLoop c9,.inBlock 0,.code c44] ⟨[(.ptr y0),(.int .i64 y1),Gc,Gd,Ge,(Sl.hv y5),(.int .i64 y6),(.int .i64 y7),Gi,Gj,Gk,Gl,Gm,Gn,Go,Gp,Gq,Gr,Gs,Gt,Gu,Gv,Gw,Gx,Gy,Gz,Ka,Kb,Kc,Kd,Ke,Kf,Kg,Kh,Ki,Kj,Kk,Kl,Km,Kn,Ko,Kp,Kq,Kr,Ks,Kt,Ku,Kv,Kw,Kx,Ky,Kz,Ma,Mb,Mc,Md,Me,Mf,Mg,Mh,Mi,Mj,Mk,Ml,Mm,Mn,Mo,Mp,Mq,Mr,Ms,Mt,Mu],[]⟩ S (fun v S1 => v = (Sl.hv p.1) ∧ S1 = p.2)) (hrec1 : ∀ ⦃y0 : (Option HA)⦄ ⦃y1 : Int⦄ ⦃y5 : Sl⦄ ⦃y6 : Int⦄ ⦃S : HS⦄ ⦃p : (Sl) × HS⦄ ⦃Gc Gd Ge Gh Gi Gj Gk Gl Gm Gn Go Gp Gq Gr Gs Gt Gu Gv Gw Gx Gy Gz Ka Kb Kc Kd Ke Kf Kg Kh Ki Kj Kk Kl Km Kn Ko Kp Kq Kr Ks Kt Ku Kv Kw Kx Ky Kz Ma Mb Mc Md Me Mf Mg Mh Mi Mj Mk Ml Mm Mn Mo Mp Mq Mr Ms Mt Mu : HV⦄,rec1 y0 y1 y5 y6 S = some p → HRun Tryz.prog base W0 β0 19 none [.inLoop c9,.inBlock 0,.code c44] ⟨[(.ptr y0),(.int .i64 y1),Gc,Gd,Ge,(Sl.hv y5),(.int .i64 y6),Gh,Gi,Gj,Gk,Gl,Gm,Gn,Go,Gp,Gq,Gr,Gs,Gt,Gu,Gv,Gw,Gx,Gy,Gz,Ka,Kb,Kc,Kd,Ke,Kf,Kg,Kh,Ki,Kj,Kk,Kl,Km,Kn,Ko,Kp,Kq,Kr,Ks,Kt,Ku,Kv,Kw,Kx,Ky,Kz,Ma,Mb,Mc,Md,Me,Mf,Mg,Mh,Mi,Mj,Mk,Ml,Mm,Mn,Mo,Mp,Mq,Mr,Ms,Mt,Mu],[]⟩ S (fun v S1 => v = (Sl.hv p.1) ∧ S1 = p.2)) {y0 : (Option HA)} {y1 : Int} {y5 : Sl} {y6 : Int} {y7 : Int} {y48 : Bool} {S : HS} {p : (Sl) × HS} {Gc Gd Ge Gi Gj Gk Gl Gm Gn Go Gp Gq Gr Gs Gt Gu Gv Gw Gx Gy Gz Ka Kb Kc Kd Ke Kf Kg Kh Ki Kj Kk Kl Km Kn Ko Kp Kq Kr Ks Kt Ku Kv Kx Ky Kz Ma Mb Mc Md Me Mf Mg Mh Mi Mj Mk Ml Mm Mn Mo Mp Mq Mr Ms Mt Mu : HV} (h : J3 k rec0 rec1 y0 y1 y5 y6 y7 y48 S = some p) : HRun Tryz.prog base W0 β0 19 none [.code c31,.code c34,.inLoop c28,.inBlock 2,.code c36,.inBlock 1,.code c43,.inLoop c9,.inBlock 0,.code c44] ⟨[(.ptr y0),(.int .i64 y1),Gc,Gd,Ge,(Sl.hv y5),(.int .i64 y6),(.int .i64 y7),Gi,Gj,Gk,Gl,Gm,Gn,Go,Gp,Gq,Gr,Gs,Gt,Gu,Gv,Gw,Gx,Gy,Gz,Ka,Kb,Kc,Kd,Ke,Kf,Kg,Kh,Ki,Kj,Kk,Kl,Km,Kn,Ko,Kp,Kq,Kr,Ks,Kt,Ku,Kv,(.bool y48),Kx,Ky,Kz,Ma,Mb,Mc,Md,Me,Mf,Mg,Mh,Mi,Mj,Mk,Ml,Mm,Mn,Mo,Mp,Mq,Mr,Ms,Mt,Mu],[]⟩ S (fun v S1 => v = (Sl.hv p.1) ∧ S1 = p.2) := by
 unfold J3 at h
 rcases ifc h with ⟨hc17,h⟩ | ⟨hc17,h⟩
 ·refine q_cond_t rfl (.tmp rfl) hc17 (q_skipc rfl (q_block rfl (qR rfl rfl (qS 49 rfl (oM · rfl) (qS 50 rfl (oC · rfl rfl) (qS 7 rfl (oA · rfl) (rE ?_)))))))
  try dsimp only [w0,w1,w2,w3]
  refine hr_inBlock ?_
  try dsimp only [w0,w1,w2,w3]
  exact hrec0 h
 ·refine q_cond_f rfl (.tmp rfl) (bfalse hc17) (q_exit rfl rfl (qQ rfl (qR rfl rfl (qS 8 rfl (ok_assign · (.const fun _ => .slNil none)) (rE ?_)))))
  try dsimp only [w0,w1,w2,w3]
  obtain ⟨p18,hp18,h⟩ := bindo h
  refine qQ rfl (qR rfl rfl (qS 51 rfl (oM · rfl) (qS 52 rfl (oM · rfl) (qS 53 rfl (oM · rfl) (qS 54 rfl (ok_slice (kl := .i64) (kh := .i64) (s := y5) (l := 0) (h := y7) · tu38 si9 (.tmp rfl) (.inl ⟨rfl,rfl⟩) (.inr ⟨_,rfl,(.tmp rfl)⟩) hp18) ?_)))))
  try dsimp only [w0,w1,w2,w3]
  obtain ⟨p19,hp19,h⟩ := bindo h
  obtain ⟨p20,hp20,h⟩ := bindo h
  refine qS 55 rfl (ok_append (s := Sl.nil) (s1 := p18) el38 · rfl rfl ⟨_,tu38⟩ (.tmp rfl) (.tmp rfl) hp19 hp20) (qS 8 rfl (oA · rfl) (rE ?_))
  try dsimp only [w0,w1,w2,w3]
  obtain ⟨p21,hp21,h⟩ := bindo h
  refine qQ rfl (qR rfl rfl (qS 56 rfl (oM · rfl) (qS 57 rfl (oM · rfl) (qS 58 rfl (oN · rfl hp21) (qS 59 rfl (oF · fi30_1 (by decide) rfl rfl) ?_)))))
  try dsimp only [w0,w1,w2,w3]
  obtain ⟨p22,hp22,h⟩ := bindo h
  obtain ⟨p23,hp23,h⟩ := bindo h
  refine qS 60 rfl (oL · sc28 rfl rfl (ldSl_out hp22)) (qS 61 rfl (oM · rfl) (qS 62 rfl (oX (s := p22) · tu28 sz68 rfl rfl hp23) (qS 63 rfl (oF · fi68_1 (by decide) rfl rfl) ?_)))
  try dsimp only [w0,w1,w2,w3]
  obtain ⟨p24,hp24,h⟩ := bindo h
  obtain ⟨p25,hp25,h⟩ := leto h
  obtain ⟨p26,hp26,h⟩ := bindo h
  obtain ⟨p27,hp27,h⟩ := bindo h
  refine qS 64 rfl (oL · sc9 rfl rfl (ldS_out hp24)) (qS 65 rfl (ok_buildSlice_s (xs := [(.tmp 64)]) el38 · rfl rfl (by decide) (.cons (.tmp rfl) Evs.nil) rfl rfl hp25) (qS 66 rfl (ok_append (s := (p20.1)) (s1 := (p25.1)) el38 · rfl rfl ⟨_,tu38⟩ (.tmp rfl) (.tmp rfl) hp26 hp27) (qS 8 rfl (oA · rfl) (rE ?_))))
  try dsimp only [w0,w1,w2,w3]
  obtain ⟨p28,hp28,h⟩ := bindo h
  refine qR rfl rfl (qS 67 rfl (oM · rfl) (qS 68 rfl (oM · rfl) (qS 69 rfl (oM · rfl) (qS 70 rfl (ok_slice (kl := .i64) (kh := .i64) (s := y5) (l := y7) (h := (Sl.len y5 : Int)) · tu38 si9 (.tmp rfl) (.inr ⟨_,rfl,(.tmp rfl)⟩) (.inl ⟨rfl,rfl⟩) hp28) ?_))))
  try dsimp only [w0,w1,w2,w3]
  obtain ⟨p29,hp29,h⟩ := bindo h
  obtain ⟨p30,hp30,h⟩ := bindo h
  refine qS 71 rfl (ok_append (s := (p27.1)) (s1 := p28) el38 · rfl rfl ⟨_,tu38⟩ (.tmp rfl) (.tmp rfl) hp29 hp30) (qS 5 rfl (oA · rfl) (rE ?_))
  try dsimp only [w0,w1,w2,w3]
  refine hr_inBlock ?_
  try dsimp only [w0,w1,w2,w3]
  exact J1_snd hrec1 h
def L2 (k : Nat) (rec0 : (Option HA) → Int → Sl → Int → HS → Option ((Sl) × HS)) : Nat → (Option HA) → Int → Sl → Int → Int → HS → Option ((Sl) × HS)
 | 0,_,_,_,_,_,_ => none
 | n + 1,y0,y1,y5,y6,y7,S =>
  (if y7 > 0 then
  (Option.bind (HS.idx S y5 (w64 (y7 - 1)) 1) fun p10 =>
  (Option.bind (HS.ldS S p10) fun p11 =>
  (Option.bind (y0) fun p12 =>
  (Option.bind (HS.ldSl S (HA.fld p12 1)) fun p13 =>
  (Option.bind (HS.idx S p13 y6 2) fun p14 =>
  (Option.bind (HS.ldS S (HA.fld p14 1)) fun p15 =>
  (Option.bind (rollcallref01_Compare.f k p11 p15 S) fun p16 =>
  J3 k (L2 k rec0 n) rec0 y0 y1 y5 y6 y7 (decide (p16.1 > 0)) p16.2))))))) else
  J3 k (L2 k rec0 n) rec0 y0 y1 y5 y6 y7 false S)
theorem L2_snd {k : Nat} {rec0 : (Option HA) → Int → Sl → Int → HS → Option ((Sl) × HS)} (hrec0 : ∀ ⦃y0 : (Option HA)⦄ ⦃y1 : Int⦄ ⦃y5 : Sl⦄ ⦃y6 : Int⦄ ⦃S : HS⦄ ⦃p : (Sl) × HS⦄ ⦃Gc Gd Ge Gh Gi Gj Gk Gl Gm Gn Go Gp Gq Gr Gs Gt Gu Gv Gw Gx Gy Gz Ka Kb Kc Kd Ke Kf Kg Kh Ki Kj Kk Kl Km Kn Ko Kp Kq Kr Ks Kt Ku Kv Kw Kx Ky Kz Ma Mb Mc Md Me Mf Mg Mh Mi Mj Mk Ml Mm Mn Mo Mp Mq Mr Ms Mt Mu : HV⦄,rec0 y0 y1 y5 y6 S = some p → HRun Tryz.prog base W0 β0 19 none [.inLoop c9,.inBlock 0,.code c44] ⟨[(.ptr y0),(.int .i64 y1),Gc,Gd,Ge,(Sl.hv y5),(.int .i64 y6),Gh,Gi,Gj,Gk,Gl,Gm,Gn,Go,Gp,Gq,Gr,Gs,Gt,Gu,Gv,Gw,Gx,Gy,Gz,Ka,Kb,Kc,Kd,Ke,Kf,Kg,Kh,Ki,Kj,Kk,Kl,Km,Kn,Ko,Kp,Kq,Kr,Ks,Kt,Ku,Kv,Kw,Kx,Ky,Kz,Ma,Mb,Mc,Md,Me,Mf,Mg,Mh,Mi,Mj,Mk,Ml,Mm,Mn,Mo,Mp,Mq,Mr,Ms,Mt,Mu],[]⟩ S (fun v S1 => v = (Sl.hv p.1) ∧ S1 = p.2)) : ∀ {n : Nat} ⦃y0 : (Option HA)⦄ ⦃y1 : Int⦄ ⦃y5 : Sl⦄ ⦃y6 : Int⦄ ⦃y7 : Int⦄ ⦃S : HS⦄ ⦃p : (Sl) × HS⦄ ⦃Gc Gd Ge Gi Gj Gk Gl Gm Gn Go Gp Gq Gr Gs Gt Gu Gv Gw Gx Gy Gz Ka Kb Kc Kd Ke Kf Kg Kh Ki Kj Kk Kl Km Kn Ko Kp Kq Kr Ks Kt Ku Kv Kw Kx Ky Kz Ma Mb Mc Md Me Mf Mg Mh Mi Mj Mk Ml Mm Mn Mo Mp Mq Mr Ms Mt Mu : HV⦄,L2 k rec0 n y0 y1 y5 y6 y7 S = some p → HRun Tryz.prog base W0 β0 19 none [.inLoop c28,.inBlock 2,.code c36,.inBlock 1,.code c43,.inLoop c9,.inBlock 0,.code c44] ⟨[(.ptr y0),(.int .i64 y1),Gc,Gd,Ge,(Sl.hv y5),(.int .i64 y6),(.int .i64 y7),Gi,Gj,Gk,Gl,Gm,Gn,Go,Gp,Gq,Gr,Gs,Gt,Gu,Gv,Gw,Gx,Gy,Gz,Ka,Kb,Kc,Kd,Ke,Kf,Kg,Kh,Ki,Kj,Kk,Kl,Km,Kn,Ko,Kp,Kq,Kr,Ks,Kt,Ku,Kv,Kw,Kx,Ky,Kz,Ma,Mb,Mc,Md,Me,Mf,Mg,Mh,Mi,Mj,Mk,Ml,Mm,Mn,Mo,Mp,Mq,Mr,Ms,Mt,Mu],[]⟩ S (fun v S1 => v = (Sl.hv p.1) ∧ S1 = p.2) := by
 intro n
 induction n with
 | zero => intro _ _ _ _ _ _ _ _ _ _ _ _ _ _ _ _ _ _ _ _ _ _ _ _ _ _ _ _ _ _ _ _ _ _ _ _ _ _ _ _ _ _ _ _ _ _ _ _ _ _ _ _ _ _ _ _ _ _ _ _ _ _ _ _ _ _ _ _ _ _ _ _ _ _ _ h; cases h
 | succ n ih =>
  intro y0 y1 y5 y6 y7 S p Gc Gd Ge Gi Gj Gk Gl Gm Gn Go Gp Gq Gr Gs Gt Gu Gv Gw Gx Gy Gz Ka Kb Kc Kd Ke Kf Kg Kh Ki Kj Kk Kl Km Kn Ko Kp Kq Kr Ks Kt Ku Kv Kw Kx Ky Kz Ma Mb Mc Md Me Mf Mg Mh Mi Mj Mk Ml Mm Mn Mo Mp Mq Mr Ms Mt Mu h
  simp only [L2] at h
  refine hr_inLoop (qQ rfl (qQ rfl ?_))
  refine x_start (cls := [0,0,0,0,0,0,1,1,0,0,0,1,0,1,0,1,2,0,0]) (rk := [0,1,2,3,4,5,6,7,8,9,10,11,12,13,14,15,16,17,18]) rfl (by kernel_rfl) ?_
  refine yf 30 [7] rfl (oM · rfl) ?_
  refine yf 31 [30] rfl (oC · rfl rfl) ?_
  refine yf 32 [31] rfl (oM · rfl) ?_
  rcases ifc h with ⟨hc9,h⟩ | ⟨hc9,h⟩
  ·refine yfg 33 32 [5,32] rfl (decide_eq_true hc9) (oM · rfl) ?_
   try dsimp only [w0,w1,w2,w3]
   refine yfg 34 32 [7,32] rfl (decide_eq_true hc9) (oM · rfl) ?_
   refine yfg 35 32 [34,32] rfl (decide_eq_true hc9) (oC · rfl rfl) ?_
   obtain ⟨p10,hp10,h⟩ := bindo h
   refine yrg 36 32 [33,35,32] rfl (decide_eq_true hc9) (oX (s := y5) · tu38 sz9 rfl rfl hp10) ?_
   obtain ⟨p11,hp11,h⟩ := bindo h
   refine yrg 37 32 [36,32] rfl (decide_eq_true hc9) (oL · sc9 rfl rfl (ldS_out hp11)) ?_
   try dsimp only [w0,w1,w2,w3]
   refine yfg 38 32 [0,32] rfl (decide_eq_true hc9) (oM · rfl) ?_
   obtain ⟨p12,hp12,h⟩ := bindo h
   refine yfg 39 32 [38,32] rfl (decide_eq_true hc9) (oN · rfl hp12) ?_
   refine yfg 40 32 [39,32] rfl (decide_eq_true hc9) (oF · fi30_1 (by decide) rfl rfl) ?_
   obtain ⟨p13,hp13,h⟩ := bindo h
   refine yrg 41 32 [40,32] rfl (decide_eq_true hc9) (oL · sc28 rfl rfl (ldSl_out hp13)) ?_
   try dsimp only [w0,w1,w2,w3]
   refine yfg 42 32 [6,32] rfl (decide_eq_true hc9) (oM · rfl) ?_
   obtain ⟨p14,hp14,h⟩ := bindo h
   refine yrg 43 32 [41,42,32] rfl (decide_eq_true hc9) (oX (s := p13) · tu28 sz68 rfl rfl hp14) ?_
   refine yfg 44 32 [43,32] rfl (decide_eq_true hc9) (oF · fi68_1 (by decide) rfl rfl) ?_
   obtain ⟨p15,hp15,h⟩ := bindo h
   refine yrg 45 32 [44,32] rfl (decide_eq_true hc9) (oL · sc9 rfl rfl (ldS_out hp15)) ?_
   try dsimp only [w0,w1,w2,w3]
   obtain ⟨p16,hp16,h⟩ := bindo h
   refine x_go (e_call_g (dst := some 46) (t := 32) (ts := [37,45,32]) rfl (by kernel_rfl) rfl rfl (decide_eq_true hc9) (.func _) (.cons (.tmp rfl) (.cons (.tmp rfl) Evs.nil)) (HInv.static rollcallref01_Compare.at_ rollcallref01_Compare.body (rollcallref01_Compare.snd  hp16))) rfl ?_
   refine yfg 47 32 [46,32] rfl (decide_eq_true hc9) (oC · rfl rfl) ?_
   refine yf 48 [32,47] rfl (ok_pick_tt · (.tmp rfl) (decide_eq_true hc9) (.tmp rfl)) ?_
   refine x_rest rfl ?_
   refine rE ?_
   try dsimp only [w0,w1,w2,w3]
   try dsimp only [w0,w1,w2,w3]
   exact J3_snd ih hrec0 h
  ·refine yfs 33 32 [5,32] rfl (decide_eq_false hc9) ?_
   try dsimp only [w0,w1,w2,w3]
   refine yfs 34 32 [7,32] rfl (decide_eq_false hc9) ?_
   refine yfs 35 32 [34,32] rfl (decide_eq_false hc9) ?_
   refine yrs 36 32 [33,35,32] rfl (decide_eq_false hc9) ?_
   refine yrs 37 32 [36,32] rfl (decide_eq_false hc9) ?_
   try dsimp only [w0,w1,w2,w3]
   refine yfs 38 32 [0,32] rfl (decide_eq_false hc9) ?_
   refine yfs 39 32 [38,32] rfl (decide_eq_false hc9) ?_
   refine yfs 40 32 [39,32] rfl (decide_eq_false hc9) ?_
   refine yrs 41 32 [40,32] rfl (decide_eq_false hc9) ?_
   try dsimp only [w0,w1,w2,w3]
   refine yfs 42 32 [6,32] rfl (decide_eq_false hc9) ?_
   refine yrs 43 32 [41,42,32] rfl (decide_eq_false hc9) ?_
   refine yfs 44 32 [43,32] rfl (decide_eq_false hc9) ?_
   refine yrs 45 32 [44,32] rfl (decide_eq_false hc9) ?_
   try dsimp only [w0,w1,w2,w3]
   refine yes 46 32 [37,45,32] rfl (decide_eq_false hc9) ?_
   refine yfs 47 32 [46,32] rfl (decide_eq_false hc9) ?_
   refine yf 48 [32,47] rfl (ok_pick_ff · (.tmp rfl) (decide_eq_false hc9) (.bool _)) ?_
   refine x_rest rfl ?_
   refine rE ?_
   try dsimp only [w0,w1,w2,w3]
   try dsimp only [w0,w1,w2,w3]
   exact J3_snd ih hrec0 h
def L0 (k : Nat) : Nat → (Option HA) → Int → Sl → Int → HS → Option ((Sl) × HS)
 | 0,_,_,_,_,_ => none
 | n + 1,y0,y1,y5,y6,S =>
  (Option.bind (y0) fun p1 =>
  (Option.bind (HS.ldSl S (HA.fld p1 1)) fun p2 =>
  (if y6 < (Sl.len p2 : Int) then
  (Option.bind (y0) fun p4 =>
  (Option.bind (HS.ldSl S (HA.fld p4 1)) fun p5 =>
  (Option.bind (HS.idx S p5 y6 2) fun p6 =>
  (Option.bind (HS.ldI S .i64 (HA.fld p6 0)) fun p7 =>
  (if (!decide (p7 = y1)) = true then
  J1 k (L0 k n) y0 y1 y5 y6 S else
  L2 k (L0 k n) k y0 y1 y5 y6 (Sl.len y5 : Int) S))))) else
  some (y5,S))))
theorem L0_snd {k : Nat}  : ∀ {n : Nat} ⦃y0 : (Option HA)⦄ ⦃y1 : Int⦄ ⦃y5 : Sl⦄ ⦃y6 : Int⦄ ⦃S : HS⦄ ⦃p : (Sl) × HS⦄ ⦃Gc Gd Ge Gh Gi Gj Gk Gl Gm Gn Go Gp Gq Gr Gs Gt Gu Gv Gw Gx Gy Gz Ka Kb Kc Kd Ke Kf Kg Kh Ki Kj Kk Kl Km Kn Ko Kp Kq Kr Ks Kt Ku Kv Kw Kx Ky Kz Ma Mb Mc Md Me Mf Mg Mh Mi Mj Mk Ml Mm Mn Mo Mp Mq Mr Ms Mt Mu : HV⦄,L0 k n y0 y1 y5 y6 S = some p → HRun Tryz.prog base W0 β0 19 none [.inLoop c9,.inBlock 0,.code c44] ⟨[(.ptr y0),(.int .i64 y1),Gc,Gd,Ge,(Sl.hv y5),(.int .i64 y6),Gh,Gi,Gj,Gk,Gl,Gm,Gn,Go,Gp,Gq,Gr,Gs,Gt,Gu,Gv,Gw,Gx,Gy,Gz,Ka,Kb,Kc,Kd,Ke,Kf,Kg,Kh,Ki,Kj,Kk,Kl,Km,Kn,Ko,Kp,Kq,Kr,Ks,Kt,Ku,Kv,Kw,Kx,Ky,Kz,Ma,Mb,Mc,Md,Me,Mf,Mg,Mh,Mi,Mj,Mk,Ml,Mm,Mn,Mo,Mp,Mq,Mr,Ms,Mt,Mu],[]⟩ S (fun v S1 => v = (Sl.hv p.1) ∧ S1 = p.2) := by
 intro n
 induction n with
 | zero => intro _ _ _ _ _ _ _ _ _ _ _ _ _ _ _ _ _ _ _ _ _ _ _ _ _ _ _ _ _ _ _ _ _ _ _ _ _ _ _ _ _ _ _ _ _ _ _ _ _ _ _ _ _ _ _ _ _ _ _ _ _ _ _ _ _ _ _ _ _ _ _ _ _ _ _ h; cases h
 | succ n ih =>
  intro y0 y1 y5 y6 S p Gc Gd Ge Gh Gi Gj Gk Gl Gm Gn Go Gp Gq Gr Gs Gt Gu Gv Gw Gx Gy Gz Ka Kb Kc Kd Ke Kf Kg Kh Ki Kj Kk Kl Km Kn Ko Kp Kq Kr Ks Kt Ku Kv Kw Kx Ky Kz Ma Mb Mc Md Me Mf Mg Mh Mi Mj Mk Ml Mm Mn Mo Mp Mq Mr Ms Mt Mu h
  simp only [L0] at h
  obtain ⟨p1,hp1,h⟩ := bindo h
  refine hr_inLoop (qQ rfl (qQ rfl (qR rfl rfl (qS 9 rfl (oM · rfl) (qS 10 rfl (oM · rfl) (qS 11 rfl (oN · rfl hp1) (qS 12 rfl (oF · fi30_1 (by decide) rfl rfl) ?_)))))))
  try dsimp only [w0,w1,w2,w3]
  obtain ⟨p2,hp2,h⟩ := bindo h
  refine qS 13 rfl (oL · sc28 rfl rfl (ldSl_out hp2)) (qS 14 rfl (ok_len_sl (q := Sl.a p2) (n := Sl.len p2) (z := Sl.cap p2) · rfl tu28 (.tmp rfl)) (qS 15 rfl (oB · rfl rfl rfl) (rE ?_)))
  try dsimp only [w0,w1,w2,w3]
  rcases ifc h with ⟨hc3,h⟩ | ⟨hc3,h⟩
  ·obtain ⟨p4,hp4,h⟩ := bindo h
   obtain ⟨p5,hp5,h⟩ := bindo h
   refine q_cond_t rfl (.tmp rfl) (decide_eq_true hc3) (q_skipc rfl (qQ rfl (q_block rfl (qQ rfl (qQ rfl (qR rfl rfl (qS 18 rfl (oM · rfl) (qS 19 rfl (oN · rfl hp4) (qS 20 rfl (oF · fi30_1 (by decide) rfl rfl) (qS 21 rfl (oL · sc28 rfl rfl (ldSl_out hp5)) ?_))))))))))
   try dsimp only [w0,w1,w2,w3]
   obtain ⟨p6,hp6,h⟩ := bindo h
   obtain ⟨p7,hp7,h⟩ := bindo h
   refine qS 22 rfl (oM · rfl) (qS 23 rfl (oX (s := p5) · tu28 sz68 rfl rfl hp6) (qS 24 rfl (oF · fi68_0 (by decide) rfl rfl) (qS 25 rfl (oL · sc3 rfl rfl (ldI_out hp7)) ?_)))
   try dsimp only [w0,w1,w2,w3]
   refine qS 26 rfl (oM · rfl) (qS 27 rfl (oB · rfl rfl rfl) (rE ?_))
   try dsimp only [w0,w1,w2,w3]
   rcases ifc h with ⟨hc8,h⟩ | ⟨hc8,h⟩
   ·refine q_cond_t rfl (.tmp rfl) hc8 (q_exit rfl rfl ?_)
    try dsimp only [w0,w1,w2,w3]
    exact J1_snd ih h
   ·refine q_cond_f rfl (.tmp rfl) (bfalse hc8) (q_skipc rfl (qQ rfl (qR rfl rfl (qS 28 rfl (oM · rfl) (qS 29 rfl (ok_len_sl (q := Sl.a y5) (n := Sl.len y5) (z := Sl.cap y5) · rfl tu38 (.tmp rfl)) (qS 7 rfl (oA · rfl) (rE ?_)))))))
    try dsimp only [w0,w1,w2,w3]
    refine qQ rfl (q_block rfl (q_loop rfl ?_))
    try dsimp only [w0,w1,w2,w3]
    exact L2_snd ih h
  ·refine q_cond_f rfl (.tmp rfl) (decide_eq_false hc3) (q_exit rfl rfl (qQ rfl (qR rfl rfl (qS 72 rfl (oM · rfl) (qS 4 rfl (oA · rfl) (rE ?_))))))
   try dsimp only [w0,w1,w2,w3]
   cases h
   exact q_ret rfl at_.at_ rfl (res1 rfl rfl) ⟨rfl,rfl⟩
def f (k : Nat) (x0 : (Option HA)) (x1 : Int) (S : HS) : Option ((Sl) × HS) :=
 L0 k k x0 x1 Sl.nil 0 S
theorem snd {k : Nat} {x0 : (Option HA)} {x1 : Int} {S : HS}  {p : (Sl) × HS} (h : f k x0 x1 S = some p) : HCall Tryz.prog base W0 β0 19 [(.ptr x0),(.int .i64 x1)] S (fun v S1 => v = (Sl.hv p.1) ∧ S1 = p.2) := by
 unfold f at h
 refine HCall.of_run at_.at_ body ?_
 show HRun Tryz.prog base W0 β0 19 none [.code c0] ⟨[(.ptr x0),(.int .i64 x1),τ,τ,τ,τ,τ,τ,τ,τ,τ,τ,τ,τ,τ,τ,τ,τ,τ,τ,τ,τ,τ,τ,τ,τ,τ,τ,τ,τ,τ,τ,τ,τ,τ,τ,τ,τ,τ,τ,τ,τ,τ,τ,τ,τ,τ,τ,τ,τ,τ,τ,τ,τ,τ,τ,τ,τ,τ,τ,τ,τ,τ,τ,τ,τ,τ,τ,τ,τ,τ,τ,τ],[]⟩ S _
 refine qQ rfl (qR rfl rfl (qS 4 rfl (ok_assign · (.const fun _ => .slNil none)) (rE ?_)))
 try dsimp only [w0,w1,w2,w3]
 refine qQ rfl (qR rfl rfl (qS 5 rfl (ok_assign · (.const fun _ => .slNil none)) (rE ?_)))
 try dsimp only [w0,w1,w2,w3]
 refine qQ rfl (qQ rfl (qR rfl rfl (qS 6 rfl (ok_assign · (.int _ _)) (rE ?_))))
 try dsimp only [w0,w1,w2,w3]
 refine q_block rfl (q_loop rfl ?_)
 try dsimp only [w0,w1,w2,w3]
 exact L0_snd  h
end
end rollcallref21_Lists_Of
namespace rollcallref21_Lists_Clear
theorem at_ : FnAt Tryz.prog 10 Tryz.f10 := ⟨Tryz.func10,by kernel_rfl⟩
noncomputable def d0 := (Tryz.f10.body).getD .skip
noncomputable def r1 := kR (kA d0)
noncomputable def r3 := kR (kA (kB d0))
noncomputable def d5 := kA (kB (kB d0))
noncomputable def r6 := kR (kA d5)
noncomputable def r11 := kR (kA (kA (kA (kA (kB d5)))))
noncomputable def r17 := kR (kA (kA (kB (kA (kA (kB d5))))))
noncomputable def r18 := kR (kB (kB (kA (kA (kB d5)))))
noncomputable def r20 := kR (kA (kB (kB (kB d0))))
noncomputable def c19 : Code := .seq (.region 6 r20 false) .ret
noncomputable def c9 : Code := .seq (.seq (.region 3 r11 false) (.cond (.tmp 13) .skip (.exit 0))) (.seq (.block 1 (.region 5 r17 false)) (.region 4 r18 false))
noncomputable def c0 : Code := .seq (.region 0 r1 false) (.seq (.region 1 r3 false) (.seq (.seq (.region 2 r6 false) (.block 0 (.loop c9))) c19))
theorem body : Tryz.f10.body = some c0 := by kernel_rfl
section
variable {base : Nat} {W0 : World} {β0 : Bt}
def L0 (k : Nat) : Nat → (Option HA) → Int → Sl → Int → HS → Option ((Int) × HS)
 | 0,_,_,_,_,_ => none
 | n + 1,y0,y1,y5,y6,S =>
  (if y6 < (Sl.len y5 : Int) then
  (Option.bind (HS.idx S y5 y6 1) fun p3 =>
  (Option.bind (HS.ldS S p3) fun p4 =>
  (Option.bind (rollcallref21_Lists_Remove.f k y0 y1 p4 S) fun p5 =>
  (L0 k n) y0 y1 y5 (w64 (y6 + 1)) p5.2))) else
  some ((Sl.len y5 : Int),S))
theorem L0_snd {k : Nat}  : ∀ {n : Nat} ⦃y0 : (Option HA)⦄ ⦃y1 : Int⦄ ⦃y5 : Sl⦄ ⦃y6 : Int⦄ ⦃S : HS⦄ ⦃p : (Int) × HS⦄ ⦃Gc Gd Ge Gh Gi Gj Gk Gl Gm Gn Go Gp Gq Gr Gs Gt Gu Gv Gw Gx Gy : HV⦄,L0 k n y0 y1 y5 y6 S = some p → HRun Tryz.prog base W0 β0 10 none [.inLoop c9,.inBlock 0,.code c19] ⟨[(.ptr y0),(.int .i64 y1),Gc,Gd,Ge,(Sl.hv y5),(.int .i64 y6),Gh,Gi,Gj,Gk,Gl,Gm,Gn,Go,Gp,Gq,Gr,Gs,Gt,Gu,Gv,Gw,Gx,Gy],[]⟩ S (fun v S1 => v = (.int .i64 p.1) ∧ S1 = p.2) := by
 intro n
 induction n with
 | zero => intro _ _ _ _ _ _ _ _ _ _ _ _ _ _ _ _ _ _ _ _ _ _ _ _ _ _ _ h; cases h
 | succ n ih =>
  intro y0 y1 y5 y6 S p Gc Gd Ge Gh Gi Gj Gk Gl Gm Gn Go Gp Gq Gr Gs Gt Gu Gv Gw Gx Gy h
  simp only [L0] at h
  refine hr_inLoop (qQ rfl (qQ rfl (qR rfl rfl (qS 10 rfl (oM · rfl) (qS 11 rfl (oM · rfl) (qS 12 rfl (ok_len_sl (q := Sl.a y5) (n := Sl.len y5) (z := Sl.cap y5) · rfl tu38 (.tmp rfl)) (qS 13 rfl (oB · rfl rfl rfl) (rE ?_))))))))
  try dsimp only [w0,w1,w2,w3]
  rcases ifc h with ⟨hc2,h⟩ | ⟨hc2,h⟩
  ·refine q_cond_t rfl (.tmp rfl) (decide_eq_true hc2) (q_skipc rfl (qQ rfl (q_block rfl (qR rfl rfl (qS 16 rfl (oM · rfl) (qS 17 rfl (oM · rfl) (qS 18 rfl (oM · rfl) (qS 19 rfl (oM · rfl) ?_))))))))
   try dsimp only [w0,w1,w2,w3]
   obtain ⟨p3,hp3,h⟩ := bindo h
   obtain ⟨p4,hp4,h⟩ := bindo h
   obtain ⟨p5,hp5,h⟩ := bindo h
   refine qS 20 rfl (oX (s := y5) · tu38 sz9 rfl rfl hp3) (qS 21 rfl (oL · sc9 rfl rfl (ldS_out hp4)) (q_call (dst := some 22) rfl (.func _) (.cons (.tmp rfl) (.cons (.tmp rfl) (.cons (.tmp rfl) Evs.nil))) (HInv.static rollcallref21_Lists_Remove.at_ rollcallref21_Lists_Remove.body (rollcallref21_Lists_Remove.snd  hp5)) ?_))
   rintro _ _ ⟨rfl,rfl⟩
   refine rE ?_
   try dsimp only [w0,w1,w2,w3]
   refine hr_inBlock (qR rfl rfl (qS 14 rfl (oM · rfl) (qS 15 rfl (oC · rfl rfl) (qS 6 rfl (oA · rfl) (rE ?_)))))
   try dsimp only [w0,w1,w2,w3]
   try dsimp only [w0,w1,w2,w3]
   exact ih h
  ·refine q_cond_f rfl (.tmp rfl) (decide_eq_false hc2) (q_exit rfl rfl (qQ rfl (qR rfl rfl (qS 23 rfl (oM · rfl) (qS 24 rfl (ok_len_sl (q := Sl.a y5) (n := Sl.len y5) (z := Sl.cap y5) · rfl tu38 (.tmp rfl)) (qS 4 rfl (oA · rfl) (rE ?_)))))))
   try dsimp only [w0,w1,w2,w3]
   cases h
   exact q_ret rfl at_.at_ rfl (res1 rfl rfl) ⟨rfl,rfl⟩
def f (k : Nat) (x0 : (Option HA)) (x1 : Int) (S : HS) : Option ((Int) × HS) :=
 (Option.bind (rollcallref21_Lists_Of.f k x0 x1 S) fun p1 =>
 L0 k k x0 x1 p1.1 0 p1.2)
theorem snd {k : Nat} {x0 : (Option HA)} {x1 : Int} {S : HS}  {p : (Int) × HS} (h : f k x0 x1 S = some p) : HCall Tryz.prog base W0 β0 10 [(.ptr x0),(.int .i64 x1)] S (fun v S1 => v = (.int .i64 p.1) ∧ S1 = p.2) := by
 unfold f at h
 refine HCall.of_run at_.at_ body ?_
 show HRun Tryz.prog base W0 β0 10 none [.code c0] ⟨[(.ptr x0),(.int .i64 x1),τ,τ,τ,τ,τ,τ,τ,τ,τ,τ,τ,τ,τ,τ,τ,τ,τ,τ,τ,τ,τ,τ,τ],[]⟩ S _
 refine qQ rfl (qR rfl rfl (qS 4 rfl (ok_assign · (.int _ _)) (rE ?_)))
 try dsimp only [w0,w1,w2,w3]
 obtain ⟨p1,hp1,h⟩ := bindo h
 refine qQ rfl (qR rfl rfl (qS 7 rfl (oM · rfl) (qS 8 rfl (oM · rfl) (q_call (dst := some 9) rfl (.func _) (.cons (.tmp rfl) (.cons (.tmp rfl) Evs.nil)) (HInv.static rollcallref21_Lists_Of.at_ rollcallref21_Lists_Of.body (rollcallref21_Lists_Of.snd  hp1)) ?_))))
 rintro _ _ ⟨rfl,rfl⟩
 refine qS 5 rfl (oA · rfl) (rE ?_)
 try dsimp only [w0,w1,w2,w3]
 refine qQ rfl (qQ rfl (qR rfl rfl (qS 6 rfl (ok_assign · (.int _ _)) (rE ?_))))
 try dsimp only [w0,w1,w2,w3]
 refine q_block rfl (q_loop rfl ?_)
 try dsimp only [w0,w1,w2,w3]
 exact L0_snd  h
end
end rollcallref21_Lists_Clear
namespace pair_Rel_int_string_Count
theorem at_ : FnAt Tryz.prog 30 Tryz.f30 := ⟨Tryz.func30,by kernel_rfl⟩
noncomputable def d0 := (Tryz.f30.body).getD .skip
noncomputable def r1 := kR (kA d0)
noncomputable def r4 := kR (kA (kA (kB d0)))
noncomputable def r7 := kR (kA (kA (kB (kA (kB d0)))))
noncomputable def r11 := kR (kA (kB (kB d0)))
noncomputable def c0 : Code := .seq (.region 0 r1 false) (.seq (.seq (.region 1 r4 false) (.cond (.tmp 6) (.seq (.region 2 r7 false) .ret) .skip)) (.seq (.region 3 r11 false) .ret))
theorem body : Tryz.f30.body = some c0 := by kernel_rfl
section
variable {base : Nat} {W0 : World} {β0 : Bt}
def f (x0 : (Option HA)) (x1 : Int) (S : HS) : Option ((Int) × HS) :=
 (if (Option.isNone x0) = true then
 some (0,S) else
 (Option.bind (x0) fun p2 =>
 (Option.bind (HS.ldM S (HA.fld p2 2)) fun p3 =>
 (Option.bind (HS.look S p3 (.int .i64 x1)) fun p4 =>
 (Option.bind (dP (Option.getD p4 (.ptr none))) fun p5 =>
 (Option.bind (set_Set_string_Len.f p5 S) fun p6 =>
 some (p6.1,p6.2)))))))
theorem snd {x0 : (Option HA)} {x1 : Int} {S : HS}  {p : (Int) × HS} (h : f x0 x1 S = some p) : HCall Tryz.prog base W0 β0 30 [(.ptr x0),(.int .i64 x1)] S (fun v S1 => v = (.int .i64 p.1) ∧ S1 = p.2) := by
 unfold f at h
 refine HCall.of_run at_.at_ body ?_
 show HRun Tryz.prog base W0 β0 30 none [.code c0] ⟨[(.ptr x0),(.int .i64 x1),τ,τ,τ,τ,τ,τ,τ,τ,τ,τ,τ,τ],[]⟩ S _
 refine qQ rfl (qR rfl rfl (qS 4 rfl (ok_assign · (.int _ _)) (rE ?_)))
 try dsimp only [w0,w1,w2,w3]
 refine qQ rfl (qQ rfl (qR rfl rfl (qS 5 rfl (oM · rfl) (qS 6 rfl (ok_nil_ptr · tu55 (.tmp rfl) (.inl ⟨rfl,rfl⟩)) (rE ?_)))))
 try dsimp only [w0,w1,w2,w3]
 rcases ifc h with ⟨hc1,h⟩ | ⟨hc1,h⟩
 ·refine q_cond_t rfl (.tmp rfl) hc1 (qQ rfl (qR rfl rfl (qS 4 rfl (ok_assign · (.int _ _)) (rE ?_))))
  try dsimp only [w0,w1,w2,w3]
  cases h
  exact q_ret rfl at_.at_ rfl (res1 rfl rfl) ⟨rfl,rfl⟩
 ·obtain ⟨p2,hp2,h⟩ := bindo h
  obtain ⟨p3,hp3,h⟩ := bindo h
  refine q_cond_f rfl (.tmp rfl) (bfalse hc1) (q_skipc rfl (qQ rfl (qR rfl rfl (qS 7 rfl (oM · rfl) (qS 8 rfl (oN · rfl hp2) (qS 9 rfl (oF · fi81_2 (by decide) rfl rfl) (qS 10 rfl (oL · sc78 rfl rfl (ldM_out hp3)) ?_)))))))
  try dsimp only [w0,w1,w2,w3]
  obtain ⟨p4,hp4,h⟩ := bindo h
  obtain ⟨p5,hp5,h⟩ := bindo h
  obtain ⟨p6,hp6,h⟩ := bindo h
  refine qS 11 rfl (oM · rfl) (qS 12 rfl (ok_lookup · tu78 zi87 (fun β => .ptrNil) (keyInt tu3) (.tmp rfl) (.tmp rfl) hp4 (dP_out hp5)) (q_call (dst := some 13) rfl (.func _) (.cons (.tmp rfl) Evs.nil) (HInv.static set_Set_string_Len.at_ set_Set_string_Len.body (set_Set_string_Len.snd  hp6)) ?_))
  rintro _ _ ⟨rfl,rfl⟩
  refine qS 4 rfl (oA · rfl) (rE ?_)
  try dsimp only [w0,w1,w2,w3]
  cases h
  exact q_ret rfl at_.at_ rfl (res1 rfl rfl) ⟨rfl,rfl⟩
end
end pair_Rel_int_string_Count
namespace slices_Reverse_string_string
theorem at_ : FnAt Tryz.prog 110 Tryz.f110 := ⟨Tryz.func110,by kernel_rfl⟩
noncomputable def d0 := (Tryz.f110.body).getD .skip
noncomputable def r1 := kR (kA d0)
noncomputable def r6 := kR (kA (kA (kA (kA (kB d0)))))
noncomputable def r12 := kR (kA (kA (kB (kA (kA (kB d0))))))
noncomputable def r13 := kR (kB (kB (kA (kA (kB d0)))))
noncomputable def c4 : Code := .seq (.seq (.region 1 r6 false) (.cond (.tmp 9) .skip (.exit 0))) (.seq (.block 1 (.region 3 r12 true)) (.region 2 r13 false))
noncomputable def c0 : Code := .seq (.region 0 r1 false) (.block 0 (.loop c4))
theorem body : Tryz.f110.body = some c0 := by kernel_rfl
section
variable {base : Nat} {W0 : World} {β0 : Bt}
def L0 (k : Nat) : Nat → Sl → Int → Int → HS → Option ((Unit) × HS)
 | 0,_,_,_,_ => none
 | n + 1,y0,y2,y3,S =>
  (if y2 < y3 then
  (Option.bind (HS.idx S y0 y3 1) fun p2 =>
  (Option.bind (HS.ldS S p2) fun p3 =>
  (Option.bind (HS.idx S y0 y2 1) fun p4 =>
  (Option.bind (HS.ldS S p4) fun p5 =>
  (Option.bind (HS.idx S y0 y2 1) fun p6 =>
  (Option.bind (HS.sets S p6 [(.str p3)]) fun p7 =>
  (Option.bind (HS.idx p7 y0 y3 1) fun p8 =>
  (Option.bind (HS.sets p7 p8 [(.str p5)]) fun p9 =>
  (L0 k n) y0 (w64 (y2 + 1)) (w64 (y3 - 1)) p9)))))))) else
  some ((),S))
theorem L0_snd {k : Nat}  : ∀ {n : Nat} ⦃y0 : Sl⦄ ⦃y2 : Int⦄ ⦃y3 : Int⦄ ⦃S : HS⦄ ⦃p : (Unit) × HS⦄ ⦃Gb Ge Gf Gg Gh Gi Gj Gk Gl Gm Gn Go Gp Gq Gr Gs Gt Gu Gv Gw Gx Gy Gz Ka Kb : HV⦄,L0 k n y0 y2 y3 S = some p → HRun Tryz.prog base W0 β0 110 none [.inLoop c4,.inBlock 0] ⟨[(Sl.hv y0),Gb,(.int .i64 y2),(.int .i64 y3),Ge,Gf,Gg,Gh,Gi,Gj,Gk,Gl,Gm,Gn,Go,Gp,Gq,Gr,Gs,Gt,Gu,Gv,Gw,Gx,Gy,Gz,Ka,Kb],[]⟩ S (fun v S1 => v = (.tup []) ∧ S1 = p.2) := by
 intro n
 induction n with
 | zero => intro _ _ _ _ _ _ _ _ _ _ _ _ _ _ _ _ _ _ _ _ _ _ _ _ _ _ _ _ _ _ h; cases h
 | succ n ih =>
  intro y0 y2 y3 S p Gb Ge Gf Gg Gh Gi Gj Gk Gl Gm Gn Go Gp Gq Gr Gs Gt Gu Gv Gw Gx Gy Gz Ka Kb h
  simp only [L0] at h
  refine hr_inLoop (qQ rfl (qQ rfl (qR rfl rfl (qS 7 rfl (oM · rfl) (qS 8 rfl (oM · rfl) (qS 9 rfl (oB · rfl rfl rfl) (rE ?_)))))))
  try dsimp only [w0,w1,w2,w3]
  rcases ifc h with ⟨hc1,h⟩ | ⟨hc1,h⟩
  ·refine q_cond_t rfl (.tmp rfl) (decide_eq_true hc1) (q_skipc rfl (qQ rfl (q_block rfl ?_)))
   refine x_start (cls := [0,0,0,0,0,0,1,1,0,0,1,1,1,2,1,2]) (rk := [0,1,12,13,2,3,4,5,6,7,8,9,10,11,14,15]) rfl (by kernel_rfl) ?_
   refine yf 14 [0] rfl (oM · rfl) ?_
   refine yf 15 [2] rfl (oM · rfl) ?_
   refine yf 16 [0] rfl (oM · rfl) ?_
   refine yf 17 [3] rfl (oM · rfl) ?_
   try dsimp only [w0,w1,w2,w3]
   refine yf 18 [0] rfl (oM · rfl) ?_
   refine yf 19 [3] rfl (oM · rfl) ?_
   obtain ⟨p2,hp2,h⟩ := bindo h
   refine yr 20 [18,19] rfl (oX (s := y0) · tu38 sz9 rfl rfl hp2) ?_
   obtain ⟨p3,hp3,h⟩ := bindo h
   refine yr 21 [20] rfl (oL · sc9 rfl rfl (ldS_out hp3)) ?_
   try dsimp only [w0,w1,w2,w3]
   refine yf 22 [0] rfl (oM · rfl) ?_
   refine yf 23 [2] rfl (oM · rfl) ?_
   obtain ⟨p4,hp4,h⟩ := bindo h
   refine yr 24 [22,23] rfl (oX (s := y0) · tu38 sz9 rfl rfl hp4) ?_
   obtain ⟨p5,hp5,h⟩ := bindo h
   refine yr 25 [24] rfl (oL · sc9 rfl rfl (ldS_out hp5)) ?_
   try dsimp only [w0,w1,w2,w3]
   obtain ⟨p6,hp6,h⟩ := bindo h
   refine yr 26 [14,15] rfl (oX (s := y0) · tu38 sz9 rfl rfl hp6) ?_
   obtain ⟨p7,hp7,h⟩ := bindo h
   refine x_go (e_op (dst := none) (ts := [26,21]) rfl (by intro _ _ h; cases h) (by kernel_rfl) (fun _ ho => ok_store_s (v := (.str p3)) ho sz9 (.tmp rfl) rfl (.tmp rfl) rfl hp7)) rfl ?_
   obtain ⟨p8,hp8,h⟩ := bindo h
   refine yr 27 [16,17] rfl (oX (s := y0) · tu38 sz9 rfl rfl hp8) ?_
   obtain ⟨p9,hp9,h⟩ := bindo h
   refine x_go (e_op (dst := none) (ts := [27,25]) rfl (by intro _ _ h; cases h) (by kernel_rfl) (fun _ ho => ok_store_s (v := (.str p5)) ho sz9 (.tmp rfl) rfl (.tmp rfl) rfl hp9)) rfl ?_
   refine x_rest rfl ?_
   refine rE ?_
   try dsimp only [w0,w1,w2,w3]
   refine hr_inBlock (qR rfl rfl (qS 10 rfl (oM · rfl) (qS 11 rfl (oC · rfl rfl) (qS 12 rfl (oM · rfl) (qS 13 rfl (oC · rfl rfl) ?_)))))
   try dsimp only [w0,w1,w2,w3]
   refine qS 2 rfl (oA · rfl) (qS 3 rfl (oA · rfl) (rE ?_))
   try dsimp only [w0,w1,w2,w3]
   try dsimp only [w0,w1,w2,w3]
   exact ih h
  ·cases h
   exact q_cond_f rfl (.tmp rfl) (decide_eq_false hc1) (q_exit rfl rfl (q_end at_.at_ rfl (res0 rfl) ⟨rfl,rfl⟩))
def f (k : Nat) (x0 : Sl) (S : HS) : Option ((Unit) × HS) :=
 L0 k k x0 0 (w64 ((Sl.len x0 : Int) - 1)) S
theorem snd {k : Nat} {x0 : Sl} {S : HS}  {p : (Unit) × HS} (h : f k x0 S = some p) : HCall Tryz.prog base W0 β0 110 [(Sl.hv x0)] S (fun v S1 => v = (.tup []) ∧ S1 = p.2) := by
 unfold f at h
 refine HCall.of_run at_.at_ body ?_
 show HRun Tryz.prog base W0 β0 110 none [.code c0] ⟨[(Sl.hv x0),τ,τ,τ,τ,τ,τ,τ,τ,τ,τ,τ,τ,τ,τ,τ,τ,τ,τ,τ,τ,τ,τ,τ,τ,τ,τ,τ],[]⟩ S _
 refine qQ rfl (qR rfl rfl (qS 4 rfl (oM · rfl) (qS 5 rfl (ok_len_sl (q := Sl.a x0) (n := Sl.len x0) (z := Sl.cap x0) · rfl tu38 (.tmp rfl)) (qS 6 rfl (oC · rfl rfl) (qS 2 rfl (ok_assign · (.int _ _)) ?_)))))
 try dsimp only [w0,w1,w2,w3]
 refine qS 3 rfl (oA · rfl) (rE ?_)
 try dsimp only [w0,w1,w2,w3]
 refine q_block rfl (q_loop rfl ?_)
 try dsimp only [w0,w1,w2,w3]
 exact L0_snd  h
end
end slices_Reverse_string_string
namespace slices_rotateLeft_string
theorem at_ : FnAt Tryz.prog 107 Tryz.f107 := ⟨Tryz.func107,by kernel_rfl⟩
noncomputable def d0 := (Tryz.f107.body).getD .skip
noncomputable def r1 := kR (kA d0)
noncomputable def r3 := kR (kA (kB d0))
noncomputable def r4 := kR (kB (kB d0))
noncomputable def c0 : Code := .seq (.region 0 r1 false) (.seq (.region 1 r3 false) (.region 2 r4 false))
theorem body : Tryz.f107.body = some c0 := by kernel_rfl
section
variable {base : Nat} {W0 : World} {β0 : Bt}
def f (k : Nat) (x0 : Sl) (x1 : Int) (S : HS) : Option ((Unit) × HS) :=
 (Option.bind (HS.cut S x0 0 x1 1) fun p1 =>
 (Option.bind (slices_Reverse_string_string.f k p1 S) fun p2 =>
 (Option.bind (HS.cut p2.2 x0 x1 (Sl.len x0 : Int) 1) fun p3 =>
 (Option.bind (slices_Reverse_string_string.f k p3 p2.2) fun p4 =>
 (Option.bind (slices_Reverse_string_string.f k x0 p4.2) fun p5 =>
 some ((),p5.2))))))
theorem snd {k : Nat} {x0 : Sl} {x1 : Int} {S : HS}  {p : (Unit) × HS} (h : f k x0 x1 S = some p) : HCall Tryz.prog base W0 β0 107 [(Sl.hv x0),(.int .i64 x1)] S (fun v S1 => v = (.tup []) ∧ S1 = p.2) := by
 unfold f at h
 refine HCall.of_run at_.at_ body ?_
 show HRun Tryz.prog base W0 β0 107 none [.code c0] ⟨[(Sl.hv x0),(.int .i64 x1),τ,τ,τ,τ,τ,τ,τ,τ,τ,τ,τ,τ],[]⟩ S _
 obtain ⟨p1,hp1,h⟩ := bindo h
 obtain ⟨p2,hp2,h⟩ := bindo h
 refine qQ rfl (qR rfl rfl (qS 4 rfl (oM · rfl) (qS 5 rfl (oM · rfl) (qS 6 rfl (ok_slice (kl := .i64) (kh := .i64) (s := x0) (l := 0) (h := x1) · tu38 si9 (.tmp rfl) (.inl ⟨rfl,rfl⟩) (.inr ⟨_,rfl,(.tmp rfl)⟩) hp1) (q_call (dst := some 7) rfl (.func _) (.cons (.tmp rfl) Evs.nil) (HInv.static slices_Reverse_string_string.at_ slices_Reverse_string_string.body (slices_Reverse_string_string.snd  hp2)) ?_)))))
 rintro _ _ ⟨rfl,rfl⟩
 refine rE ?_
 try dsimp only [w0,w1,w2,w3]
 obtain ⟨p3,hp3,h⟩ := bindo h
 obtain ⟨p4,hp4,h⟩ := bindo h
 refine qQ rfl (qR rfl rfl (qS 8 rfl (oM · rfl) (qS 9 rfl (oM · rfl) (qS 10 rfl (ok_slice (kl := .i64) (kh := .i64) (s := x0) (l := x1) (h := (Sl.len x0 : Int)) · tu38 si9 (.tmp rfl) (.inr ⟨_,rfl,(.tmp rfl)⟩) (.inl ⟨rfl,rfl⟩) hp3) (q_call (dst := some 11) rfl (.func _) (.cons (.tmp rfl) Evs.nil) (HInv.static slices_Reverse_string_string.at_ slices_Reverse_string_string.body (slices_Reverse_string_string.snd  hp4)) ?_)))))
 rintro _ _ ⟨rfl,rfl⟩
 refine rE ?_
 try dsimp only [w0,w1,w2,w3]
 obtain ⟨p5,hp5,h⟩ := bindo h
 refine qR rfl rfl (qS 12 rfl (oM · rfl) (q_call (dst := some 13) rfl (.func _) (.cons (.tmp rfl) Evs.nil) (HInv.static slices_Reverse_string_string.at_ slices_Reverse_string_string.body (slices_Reverse_string_string.snd  hp5)) ?_))
 rintro _ _ ⟨rfl,rfl⟩
 refine rE ?_
 try dsimp only [w0,w1,w2,w3]
 cases h
 exact q_end at_.at_ rfl (res0 rfl) ⟨rfl,rfl⟩
end
end slices_rotateLeft_string
namespace slices_rotateRight_string
theorem at_ : FnAt Tryz.prog 96 Tryz.f96 := ⟨Tryz.func96,by kernel_rfl⟩
noncomputable def d0 := (Tryz.f96.body).getD .skip
noncomputable def r0 := kR d0
noncomputable def c0 : Code := .region 0 r0 false
theorem body : Tryz.f96.body = some c0 := by kernel_rfl
section
variable {base : Nat} {W0 : World} {β0 : Bt}
def f (k : Nat) (x0 : Sl) (x1 : Int) (S : HS) : Option ((Unit) × HS) :=
 (Option.bind (slices_rotateLeft_string.f k x0 (w64 ((Sl.len x0 : Int) - x1)) S) fun p1 =>
 some ((),p1.2))
theorem snd {k : Nat} {x0 : Sl} {x1 : Int} {S : HS}  {p : (Unit) × HS} (h : f k x0 x1 S = some p) : HCall Tryz.prog base W0 β0 96 [(Sl.hv x0),(.int .i64 x1)] S (fun v S1 => v = (.tup []) ∧ S1 = p.2) := by
 unfold f at h
 refine HCall.of_run at_.at_ body ?_
 show HRun Tryz.prog base W0 β0 96 none [.code c0] ⟨[(Sl.hv x0),(.int .i64 x1),τ,τ,τ,τ,τ,τ,τ,τ],[]⟩ S _
 refine qR rfl rfl (qS 4 rfl (oM · rfl) (qS 5 rfl (oM · rfl) (qS 6 rfl (ok_len_sl (q := Sl.a x0) (n := Sl.len x0) (z := Sl.cap x0) · rfl tu38 (.tmp rfl)) (qS 7 rfl (oM · rfl) ?_))))
 try dsimp only [w0,w1,w2,w3]
 obtain ⟨p1,hp1,h⟩ := bindo h
 refine qS 8 rfl (oB · rfl rfl rfl) (q_call (dst := some 9) rfl (.func _) (.cons (.tmp rfl) (.cons (.tmp rfl) Evs.nil)) (HInv.static slices_rotateLeft_string.at_ slices_rotateLeft_string.body (slices_rotateLeft_string.snd  hp1)) ?_)
 rintro _ _ ⟨rfl,rfl⟩
 refine rE ?_
 try dsimp only [w0,w1,w2,w3]
 cases h
 exact q_end at_.at_ rfl (res0 rfl) ⟨rfl,rfl⟩
end
end slices_rotateRight_string
namespace slices_Insert_string_string
theorem at_ : FnAt Tryz.prog 78 Tryz.f78 := ⟨Tryz.func78,by kernel_rfl⟩
noncomputable def d0 := (Tryz.f78.body).getD .skip
noncomputable def r1 := kR (kA d0)
noncomputable def r3 := kR (kA (kB d0))
noncomputable def r5 := kR (kA (kB (kB d0)))
noncomputable def d6 := kB (kB (kB d0))
noncomputable def r8 := kR (kA (kA d6))
noncomputable def r11 := kR (kA (kA (kB (kA d6))))
noncomputable def r15 := kR (kA (kB d6))
noncomputable def r18 := kR (kA (kA (kB (kB d6))))
noncomputable def r21 := kR (kA (kA (kB (kA (kB (kB d6))))))
noncomputable def d24 := kB (kB (kB d6))
noncomputable def r26 := kR (kA (kA d24))
noncomputable def d28 := kA (kB (kA d24))
noncomputable def r29 := kR (kA d28)
noncomputable def r31 := kR (kA (kB d28))
noncomputable def r33 := kR (kA (kB (kB d28)))
noncomputable def r35 := kR (kA (kB (kB (kB d28))))
noncomputable def r39 := kR (kA (kB d24))
noncomputable def d41 := kA (kB (kB d24))
noncomputable def r42 := kR (kA d41)
noncomputable def r45 := kR (kA (kA (kB d41)))
noncomputable def r47 := kR (kA (kB (kA (kB d41))))
noncomputable def r49 := kR (kA (kB (kB (kA (kB d41)))))
noncomputable def r53 := kR (kA (kB (kB (kB d24))))
noncomputable def r55 := kR (kA (kB (kB (kB (kB d24)))))
noncomputable def r57 := kR (kA (kB (kB (kB (kB (kB d24))))))
noncomputable def c0 : Code := .seq (.region 0 r1 false) (.seq (.region 1 r3 false) (.seq (.region 2 r5 false) (.seq (.seq (.region 3 r8 false) (.cond (.tmp 16) (.seq (.region 4 r11 false) .ret) .skip)) (.seq (.region 5 r15 false) (.seq (.seq (.region 6 r18 false) (.cond (.tmp 22) (.seq (.region 7 r21 false) .ret) .skip)) (.seq (.seq (.region 8 r26 false) (.cond (.tmp 31) (.seq (.region 9 r29 false) (.seq (.region 10 r31 false) (.seq (.region 11 r33 true) (.seq (.region 12 r35 false) .ret)))) .skip)) (.seq (.region 13 r39 false) (.seq (.seq (.region 14 r42 false) (.cond (.tmp 68) (.seq (.region 15 r45 true) (.seq (.region 16 r47 false) (.seq (.region 17 r49 false) .ret))) .skip)) (.seq (.region 18 r53 false) (.seq (.region 19 r55 false) (.seq (.region 20 r57 false) .ret)))))))))))
theorem body : Tryz.f78.body = some c0 := by kernel_rfl
section
variable {base : Nat} {W0 : World} {β0 : Bt}
def f (k : Nat) (x0 : Sl) (x1 : Int) (x2 : Sl) (S : HS) : Option ((Sl) × HS) :=
 (Option.bind (HS.cut S x0 x1 (Sl.len x0 : Int) 1) fun p1 =>
 (if (Sl.len x2 : Int) = 0 then
 some (x0,S) else
 (if x1 = (Sl.len x0 : Int) then
 (Option.bind (HS.rows S x2 1) fun p4 =>
 (Option.bind (HS.app S x0 p4 1) fun p5 =>
 some ((p5.1),(p5.2)))) else
 (Option.bind (Sl.capOf x0) fun p6 =>
 (if (w64 ((Sl.len x0 : Int) + (Sl.len x2 : Int))) > p6 then
 (Option.bind (HS.cut S x0 0 x1 1) fun p8 =>
 (Option.bind (HS.appZ S p8 (w64 ((w64 ((Sl.len x0 : Int) + (Sl.len x2 : Int))) - x1)) [(.str [])] 1) fun p9 =>
 (Option.bind (HS.cut (p9.2) (p9.1) x1 (Sl.len (p9.1) : Int) 1) fun p10 =>
 (Option.bind (HS.rows (p9.2) x2 1) fun p11 =>
 (Option.bind (HS.over (p9.2) p10 (List.take (Sl.len p10) p11) 1) fun p12 =>
 (Option.bind (HS.cut p12 (p9.1) (w64 (x1 + (Sl.len x2 : Int))) (Sl.len (p9.1) : Int) 1) fun p13 =>
 (Option.bind (HS.cut p12 x0 x1 (Sl.len x0 : Int) 1) fun p14 =>
 (Option.bind (HS.rows p12 p14 1) fun p15 =>
 (Option.bind (HS.over p12 p13 (List.take (Sl.len p13) p15) 1) fun p16 =>
 some ((p9.1),p16)))))))))) else
 (Option.bind (HS.cut S x0 0 (w64 ((Sl.len x0 : Int) + (Sl.len x2 : Int))) 1) fun p17 =>
 (Option.bind (HS.cut S p17 (w64 (x1 + (Sl.len x2 : Int))) (Sl.len p17 : Int) 1) fun p18 =>
 (Option.bind (HS.ovl S x2 p18) fun p19 =>
 (if (!p19) = true then
 (Option.bind (HS.cut S p17 (w64 (x1 + (Sl.len x2 : Int))) (Sl.len p17 : Int) 1) fun p21 =>
 (Option.bind (HS.cut S p17 x1 (Sl.len p17 : Int) 1) fun p22 =>
 (Option.bind (HS.rows S p22 1) fun p23 =>
 (Option.bind (HS.over S p21 (List.take (Sl.len p21) p23) 1) fun p24 =>
 (Option.bind (HS.cut p24 p17 x1 (Sl.len p17 : Int) 1) fun p25 =>
 (Option.bind (HS.rows p24 x2 1) fun p26 =>
 (Option.bind (HS.over p24 p25 (List.take (Sl.len p25) p26) 1) fun p27 =>
 some (p17,p27)))))))) else
 (Option.bind (HS.cut S p17 (Sl.len x0 : Int) (Sl.len p17 : Int) 1) fun p28 =>
 (Option.bind (HS.rows S x2 1) fun p29 =>
 (Option.bind (HS.over S p28 (List.take (Sl.len p28) p29) 1) fun p30 =>
 (Option.bind (HS.cut p30 p17 x1 (Sl.len p17 : Int) 1) fun p31 =>
 (Option.bind (slices_rotateRight_string.f k p31 (Sl.len x2 : Int) p30) fun p32 =>
 some (p17,p32.2)))))))))))))))
theorem snd {k : Nat} {x0 : Sl} {x1 : Int} {x2 : Sl} {S : HS}  {p : (Sl) × HS} (h : f k x0 x1 x2 S = some p) : HCall Tryz.prog base W0 β0 78 [(Sl.hv x0),(.int .i64 x1),(Sl.hv x2)] S (fun v S1 => v = (Sl.hv p.1) ∧ S1 = p.2) := by
 unfold f at h
 refine HCall.of_run at_.at_ body ?_
 show HRun Tryz.prog base W0 β0 78 none [.code c0] ⟨[(Sl.hv x0),(.int .i64 x1),(Sl.hv x2),τ,τ,τ,τ,τ,τ,τ,τ,τ,τ,τ,τ,τ,τ,τ,τ,τ,τ,τ,τ,τ,τ,τ,τ,τ,τ,τ,τ,τ,τ,τ,τ,τ,τ,τ,τ,τ,τ,τ,τ,τ,τ,τ,τ,τ,τ,τ,τ,τ,τ,τ,τ,τ,τ,τ,τ,τ,τ,τ,τ,τ,τ,τ,τ,τ,τ,τ,τ,τ,τ,τ,τ,τ,τ,τ,τ,τ,τ,τ,τ,τ,τ,τ,τ,τ,τ,τ,τ,τ,τ,τ,τ],[]⟩ S _
 refine qQ rfl (qR rfl rfl (qS 6 rfl (ok_assign · (.const fun _ => .slNil none)) (rE ?_)))
 try dsimp only [w0,w1,w2,w3]
 obtain ⟨p1,hp1,h⟩ := bindo h
 refine qQ rfl (qR rfl rfl (qS 10 rfl (oM · rfl) (qS 11 rfl (oM · rfl) (qS 12 rfl (ok_slice (kl := .i64) (kh := .i64) (s := x0) (l := x1) (h := (Sl.len x0 : Int)) · tu38 si9 (.tmp rfl) (.inr ⟨_,rfl,(.tmp rfl)⟩) (.inl ⟨rfl,rfl⟩) hp1) (rE ?_)))))
 try dsimp only [w0,w1,w2,w3]
 refine qQ rfl (qR rfl rfl (qS 13 rfl (oM · rfl) (qS 14 rfl (ok_len_sl (q := Sl.a x2) (n := Sl.len x2) (z := Sl.cap x2) · rfl tu38 (.tmp rfl)) (qS 7 rfl (oA · rfl) (rE ?_)))))
 try dsimp only [w0,w1,w2,w3]
 refine qQ rfl (qQ rfl (qR rfl rfl (qS 15 rfl (oM · rfl) (qS 16 rfl (oC · rfl rfl) (rE ?_)))))
 try dsimp only [w0,w1,w2,w3]
 rcases ifc h with ⟨hc2,h⟩ | ⟨hc2,h⟩
 ·refine q_cond_t rfl (.tmp rfl) (decide_eq_true hc2) (qQ rfl (qR rfl rfl (qS 17 rfl (oM · rfl) (qS 6 rfl (oA · rfl) (rE ?_)))))
  try dsimp only [w0,w1,w2,w3]
  cases h
  exact q_ret rfl at_.at_ rfl (res1 rfl rfl) ⟨rfl,rfl⟩
 ·refine q_cond_f rfl (.tmp rfl) (decide_eq_false hc2) (q_skipc rfl (qQ rfl (qR rfl rfl (qS 18 rfl (oM · rfl) (qS 19 rfl (ok_len_sl (q := Sl.a x0) (n := Sl.len x0) (z := Sl.cap x0) · rfl tu38 (.tmp rfl)) (qS 8 rfl (oA · rfl) (rE ?_)))))))
  try dsimp only [w0,w1,w2,w3]
  refine qQ rfl (qQ rfl (qR rfl rfl (qS 20 rfl (oM · rfl) (qS 21 rfl (oM · rfl) (qS 22 rfl (oB · rfl rfl rfl) (rE ?_))))))
  try dsimp only [w0,w1,w2,w3]
  rcases ifc h with ⟨hc3,h⟩ | ⟨hc3,h⟩
  ·obtain ⟨p4,hp4,h⟩ := bindo h
   obtain ⟨p5,hp5,h⟩ := bindo h
   refine q_cond_t rfl (.tmp rfl) (decide_eq_true hc3) (qQ rfl (qR rfl rfl (qS 23 rfl (oM · rfl) (qS 24 rfl (oM · rfl) (qS 25 rfl (ok_append (s := x0) (s1 := x2) el38 · rfl rfl ⟨_,tu38⟩ (.tmp rfl) (.tmp rfl) hp4 hp5) (qS 6 rfl (oA · rfl) (rE ?_)))))))
   try dsimp only [w0,w1,w2,w3]
   cases h
   exact q_ret rfl at_.at_ rfl (res1 rfl rfl) ⟨rfl,rfl⟩
  ·refine q_cond_f rfl (.tmp rfl) (decide_eq_false hc3) (q_skipc rfl (qQ rfl (qQ rfl (qR rfl rfl (qS 26 rfl (oM · rfl) (qS 27 rfl (oM · rfl) (qS 28 rfl (oB · rfl rfl rfl) (qS 29 rfl (oM · rfl) ?_))))))))
   try dsimp only [w0,w1,w2,w3]
   obtain ⟨p6,hp6,h⟩ := bindo h
   refine qS 30 rfl (ok_cap (s := x0) · rfl tu38 (.tmp rfl) hp6) (qS 31 rfl (oB · rfl rfl rfl) (rE ?_))
   try dsimp only [w0,w1,w2,w3]
   rcases ifc h with ⟨hc7,h⟩ | ⟨hc7,h⟩
   ·obtain ⟨p8,hp8,h⟩ := bindo h
    refine q_cond_t rfl (.tmp rfl) (decide_eq_true hc7) (qQ rfl (qR rfl rfl (qS 32 rfl (oM · rfl) (qS 33 rfl (oM · rfl) (qS 34 rfl (ok_slice (kl := .i64) (kh := .i64) (s := x0) (l := 0) (h := x1) · tu38 si9 (.tmp rfl) (.inl ⟨rfl,rfl⟩) (.inr ⟨_,rfl,(.tmp rfl)⟩) hp8) (qS 35 rfl (oM · rfl) ?_))))))
    try dsimp only [w0,w1,w2,w3]
    refine qS 36 rfl (oM · rfl) (qS 37 rfl (oB · rfl rfl rfl) (qS 38 rfl (oM · rfl) (qS 39 rfl (oB · rfl rfl rfl) ?_)))
    try dsimp only [w0,w1,w2,w3]
    obtain ⟨p9,hp9,h⟩ := bindo h
    refine qS 40 rfl (ok_append_zeros (s := p8) el38 · rfl rfl tu3 (.tmp rfl) (.tmp rfl) hp9) (qS 9 rfl (oA · rfl) (rE ?_))
    try dsimp only [w0,w1,w2,w3]
    obtain ⟨p10,hp10,h⟩ := bindo h
    refine qQ rfl (qR rfl rfl (qS 41 rfl (oM · rfl) (qS 42 rfl (oM · rfl) (qS 43 rfl (ok_slice (kl := .i64) (kh := .i64) (s := (p9.1)) (l := x1) (h := (Sl.len (p9.1) : Int)) · tu38 si9 (.tmp rfl) (.inr ⟨_,rfl,(.tmp rfl)⟩) (.inl ⟨rfl,rfl⟩) hp10) (qS 44 rfl (oM · rfl) ?_)))))
    try dsimp only [w0,w1,w2,w3]
    obtain ⟨p11,hp11,h⟩ := bindo h
    obtain ⟨p12,hp12,h⟩ := bindo h
    refine qS 45 rfl (ok_copy (s := p10) (s1 := x2) el38 · rfl (.tmp rfl) (.tmp rfl) hp11 hp12) (rE ?_)
    try dsimp only [w0,w1,w2,w3]
    refine qQ rfl ?_
    refine x_start (cls := [0,0,0,0,1,0,0,1,2]) (rk := [0,1,2,3,4,5,6,7,8]) rfl (by kernel_rfl) ?_
    refine yf 46 [9] rfl (oM · rfl) ?_
    refine yf 47 [1] rfl (oM · rfl) ?_
    refine yf 48 [7] rfl (oM · rfl) ?_
    refine yf 49 [47,48] rfl (oB · rfl rfl rfl) ?_
    try dsimp only [w0,w1,w2,w3]
    obtain ⟨p13,hp13,h⟩ := bindo h
    refine yr 50 [46,49] rfl (ok_slice (kl := .i64) (kh := .i64) (s := (p9.1)) (l := (w64 (x1 + (Sl.len x2 : Int)))) (h := (Sl.len (p9.1) : Int)) · tu38 si9 (.tmp rfl) (.inr ⟨_,rfl,(.tmp rfl)⟩) (.inl ⟨rfl,rfl⟩) hp13) ?_
    refine yf 51 [0] rfl (oM · rfl) ?_
    refine yf 52 [1] rfl (oM · rfl) ?_
    obtain ⟨p14,hp14,h⟩ := bindo h
    refine yr 53 [51,52] rfl (ok_slice (kl := .i64) (kh := .i64) (s := x0) (l := x1) (h := (Sl.len x0 : Int)) · tu38 si9 (.tmp rfl) (.inr ⟨_,rfl,(.tmp rfl)⟩) (.inl ⟨rfl,rfl⟩) hp14) ?_
    try dsimp only [w0,w1,w2,w3]
    obtain ⟨p15,hp15,h⟩ := bindo h
    obtain ⟨p16,hp16,h⟩ := bindo h
    refine ye 54 [50,53] rfl (ok_copy (s := p13) (s1 := p14) el38 · rfl (.tmp rfl) (.tmp rfl) hp15 hp16) ?_
    refine x_rest rfl ?_
    refine rE ?_
    try dsimp only [w0,w1,w2,w3]
    refine qQ rfl (qR rfl rfl (qS 55 rfl (oM · rfl) (qS 6 rfl (oA · rfl) (rE ?_))))
    try dsimp only [w0,w1,w2,w3]
    cases h
    exact q_ret rfl at_.at_ rfl (res1 rfl rfl) ⟨rfl,rfl⟩
   ·refine q_cond_f rfl (.tmp rfl) (decide_eq_false hc7) (q_skipc rfl (qQ rfl (qR rfl rfl (qS 56 rfl (oM · rfl) (qS 57 rfl (oM · rfl) (qS 58 rfl (oM · rfl) (qS 59 rfl (oB · rfl rfl rfl) ?_)))))))
    try dsimp only [w0,w1,w2,w3]
    obtain ⟨p17,hp17,h⟩ := bindo h
    refine qS 60 rfl (ok_slice (kl := .i64) (kh := .i64) (s := x0) (l := 0) (h := (w64 ((Sl.len x0 : Int) + (Sl.len x2 : Int)))) · tu38 si9 (.tmp rfl) (.inl ⟨rfl,rfl⟩) (.inr ⟨_,rfl,(.tmp rfl)⟩) hp17) (qS 0 rfl (oA · rfl) (rE ?_))
    try dsimp only [w0,w1,w2,w3]
    refine qQ rfl (qQ rfl (qR rfl rfl (qS 61 rfl (oM · rfl) (qS 62 rfl (oM · rfl) (qS 63 rfl (oM · rfl) (qS 64 rfl (oM · rfl) ?_))))))
    try dsimp only [w0,w1,w2,w3]
    obtain ⟨p18,hp18,h⟩ := bindo h
    obtain ⟨p19,hp19,h⟩ := bindo h
    refine qS 65 rfl (oB · rfl rfl rfl) (qS 66 rfl (ok_slice (kl := .i64) (kh := .i64) (s := p17) (l := (w64 (x1 + (Sl.len x2 : Int)))) (h := (Sl.len p17 : Int)) · tu38 si9 (.tmp rfl) (.inr ⟨_,rfl,(.tmp rfl)⟩) (.inl ⟨rfl,rfl⟩) hp18) (qS 67 rfl (ok_overlaps (s1 := x2) (s2 := p18) · ext95 tu38 si9 (.tmp rfl) (.tmp rfl) hp19) (qS 68 rfl (ok_not · (.tmp rfl)) (rE ?_))))
    try dsimp only [w0,w1,w2,w3]
    rcases ifc h with ⟨hc20,h⟩ | ⟨hc20,h⟩
    ·refine q_cond_t rfl (.tmp rfl) hc20 (qQ rfl ?_)
     refine x_start (cls := [0,0,0,0,1,0,0,1,2]) (rk := [0,1,2,3,4,5,6,7,8]) rfl (by kernel_rfl) ?_
     refine yf 69 [0] rfl (oM · rfl) ?_
     refine yf 70 [1] rfl (oM · rfl) ?_
     refine yf 71 [7] rfl (oM · rfl) ?_
     refine yf 72 [70,71] rfl (oB · rfl rfl rfl) ?_
     try dsimp only [w0,w1,w2,w3]
     obtain ⟨p21,hp21,h⟩ := bindo h
     refine yr 73 [69,72] rfl (ok_slice (kl := .i64) (kh := .i64) (s := p17) (l := (w64 (x1 + (Sl.len x2 : Int)))) (h := (Sl.len p17 : Int)) · tu38 si9 (.tmp rfl) (.inr ⟨_,rfl,(.tmp rfl)⟩) (.inl ⟨rfl,rfl⟩) hp21) ?_
     refine yf 74 [0] rfl (oM · rfl) ?_
     refine yf 75 [1] rfl (oM · rfl) ?_
     obtain ⟨p22,hp22,h⟩ := bindo h
     refine yr 76 [74,75] rfl (ok_slice (kl := .i64) (kh := .i64) (s := p17) (l := x1) (h := (Sl.len p17 : Int)) · tu38 si9 (.tmp rfl) (.inr ⟨_,rfl,(.tmp rfl)⟩) (.inl ⟨rfl,rfl⟩) hp22) ?_
     try dsimp only [w0,w1,w2,w3]
     obtain ⟨p23,hp23,h⟩ := bindo h
     obtain ⟨p24,hp24,h⟩ := bindo h
     refine ye 77 [73,76] rfl (ok_copy (s := p21) (s1 := p22) el38 · rfl (.tmp rfl) (.tmp rfl) hp23 hp24) ?_
     refine x_rest rfl ?_
     refine rE ?_
     try dsimp only [w0,w1,w2,w3]
     obtain ⟨p25,hp25,h⟩ := bindo h
     refine qQ rfl (qR rfl rfl (qS 78 rfl (oM · rfl) (qS 79 rfl (oM · rfl) (qS 80 rfl (ok_slice (kl := .i64) (kh := .i64) (s := p17) (l := x1) (h := (Sl.len p17 : Int)) · tu38 si9 (.tmp rfl) (.inr ⟨_,rfl,(.tmp rfl)⟩) (.inl ⟨rfl,rfl⟩) hp25) (qS 81 rfl (oM · rfl) ?_)))))
     try dsimp only [w0,w1,w2,w3]
     obtain ⟨p26,hp26,h⟩ := bindo h
     obtain ⟨p27,hp27,h⟩ := bindo h
     refine qS 82 rfl (ok_copy (s := p25) (s1 := x2) el38 · rfl (.tmp rfl) (.tmp rfl) hp26 hp27) (rE ?_)
     try dsimp only [w0,w1,w2,w3]
     refine qQ rfl (qR rfl rfl (qS 83 rfl (oM · rfl) (qS 6 rfl (oA · rfl) (rE ?_))))
     try dsimp only [w0,w1,w2,w3]
     cases h
     exact q_ret rfl at_.at_ rfl (res1 rfl rfl) ⟨rfl,rfl⟩
    ·obtain ⟨p28,hp28,h⟩ := bindo h
     refine q_cond_f rfl (.tmp rfl) (bfalse hc20) (q_skipc rfl (qQ rfl (qR rfl rfl (qS 84 rfl (oM · rfl) (qS 85 rfl (oM · rfl) (qS 86 rfl (ok_slice (kl := .i64) (kh := .i64) (s := p17) (l := (Sl.len x0 : Int)) (h := (Sl.len p17 : Int)) · tu38 si9 (.tmp rfl) (.inr ⟨_,rfl,(.tmp rfl)⟩) (.inl ⟨rfl,rfl⟩) hp28) (qS 87 rfl (oM · rfl) ?_)))))))
     try dsimp only [w0,w1,w2,w3]
     obtain ⟨p29,hp29,h⟩ := bindo h
     obtain ⟨p30,hp30,h⟩ := bindo h
     refine qS 88 rfl (ok_copy (s := p28) (s1 := x2) el38 · rfl (.tmp rfl) (.tmp rfl) hp29 hp30) (rE ?_)
     try dsimp only [w0,w1,w2,w3]
     obtain ⟨p31,hp31,h⟩ := bindo h
     refine qQ rfl (qR rfl rfl (qS 89 rfl (oM · rfl) (qS 90 rfl (oM · rfl) (qS 91 rfl (ok_slice (kl := .i64) (kh := .i64) (s := p17) (l := x1) (h := (Sl.len p17 : Int)) · tu38 si9 (.tmp rfl) (.inr ⟨_,rfl,(.tmp rfl)⟩) (.inl ⟨rfl,rfl⟩) hp31) (qS 92 rfl (oM · rfl) ?_)))))
     try dsimp only [w0,w1,w2,w3]
     obtain ⟨p32,hp32,h⟩ := bindo h
     refine q_call (dst := some 93) rfl (.func _) (.cons (.tmp rfl) (.cons (.tmp rfl) Evs.nil)) (HInv.static slices_rotateRight_string.at_ slices_rotateRight_string.body (slices_rotateRight_string.snd  hp32)) ?_
     rintro _ _ ⟨rfl,rfl⟩
     refine rE ?_
     try dsimp only [w0,w1,w2,w3]
     refine qQ rfl (qR rfl rfl (qS 94 rfl (oM · rfl) (qS 6 rfl (oA · rfl) (rE ?_))))
     try dsimp only [w0,w1,w2,w3]
     cases h
     exact q_ret rfl at_.at_ rfl (res1 rfl rfl) ⟨rfl,rfl⟩
end
end slices_Insert_string_string
namespace slices_Insert_string_string_w
theorem at_ : FnAt Tryz.prog 78 Tryz.f78 := slices_Insert_string_string.at_
theorem body : Tryz.f78.body = some slices_Insert_string_string.c0 := slices_Insert_string_string.body
def f (x0 : Sl) (x1 : Int) (x2 : Sl) (S : HS) : Option ((Sl) × HS) := HS.ins S x0 x1 x2 1
theorem snd {base : Nat} {W0 : World} {β0 : Bt} {x0 : Sl} {x1 : Int} {x2 : Sl} {S : HS} {p : (Sl) × HS} (h : f x0 x1 x2 S = some p) : HCall Tryz.prog base W0 β0 78 [(Sl.hv x0),(.int .i64 x1),(Sl.hv x2)] S (fun v S1 => v = (Sl.hv p.1) ∧ S1 = p.2) :=
 ins_snd (rot := fun a b T => slices_rotateRight_string.f 0 a b T) (zr := [(.str [])]) (fun _ _ _ h => slices_Insert_string_string.snd (k := 0) h) h
end slices_Insert_string_string_w
end Go.Proofs.YtcphapfclncggaaGreatDoor.X
