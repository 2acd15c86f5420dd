/- Functions of the program, each as a Lean function over the layer HL: a call answers what the Lean function answers, where it answers. Functions of the program, each as a Lean function over the layer HL: a call answers what the Lean function answers, where it answers. The laws' own functions; awake, which has no argument, is run by the kernel once, in an empty memory: that is its contract in every memory. Sets, what is common to all. Sets of int, plain. -/
import Derived.Test.YtbmfomkfmpppiaaGreatProg
import Derived.Test.YtbmfomkfmpppiaaGreatPart11
namespace Go.Proofs.YtbmfomkfmpppiaaGreat.X
open Go.Proofs.YtbmfomkfmpppiaaGreat.HL
set_option linter.unusedVariables false
set_option linter.unusedSimpArgs false
set_option maxRecDepth 20000
set_option maxHeartbeats 4000000
noncomputable section
variable {base : Nat} {W0 : World} {β0 : Bt}
variable {D : Dp} {H : Hd} {k : Nat} {Ga Gb Gc Gd Ge Gf Gg Gh Gi Gj Gk Gl Gm Gn Go Gp Gq Gr Gs Gt Gu Gv Gw Gx Gy Gz Ka Kb Kc Kd Ke Kf Kg Kh Ki Kj Kk Kl Km Kn Ko Kp Kq Kr Ks Kt Ku Kv Kw Kx Ky Kz Ma Mb Mc Md Me Mf Mg Mh Mi Mj Mk Ml Mm Mn Mo Mp Mq Mr Ms Mt Mu Mv Mw Mx My Mz Na Nb Nc Nd Ne Nf Ng Nh Ni Nj Nk Nl Nm Nn No Np Nq Nr Ns Nt Nu Nv Nw Nx Ny Nz : HV}
namespace book_Book_room_Room_All_1
theorem at_ : FnAt Tryz.prog 90 Tryz.f90 := ⟨Tryz.func90,by kernel_rfl⟩
def c0 : Code := .skip
theorem body : Tryz.f90.body = some c0 := by kernel_rfl
def f (x0 : HV) : Option (Unit) :=
 some ()
theorem snd {x0 : HV} {S : HS}  {p : Unit} (h : f x0 = some p) : HCall Tryz.prog base W0 β0 90 [x0] S (fun v S1 => v = (.tup []) ∧ S1 = S) := by
 unfold f at h
 refine HCall.of_run at_.at_ body ?_
 show HR base W0 β0 90 none [.code c0] ⟨[x0,τ],[]⟩ S _
 cases h
 exact q_skipc rfl (q_end at_.at_ rfl (res0 rfl) ⟨rfl,rfl⟩)
end book_Book_room_Room_All_1
namespace slices_Clone_book_entry_room_Room_book_entry_room_Room
theorem at_ : FnAt Tryz.prog 92 Tryz.f92 := ⟨Tryz.func92,by kernel_rfl⟩
def d0 := (Tryz.f92.body).getD .skip
def r1 := kR (kA d0)
def r4 := kR (kA (kA (kB d0)))
def r7 := kR (kA (kA (kB (kA (kB d0)))))
def r11 := kR (kA (kB (kB d0)))
def c0 : Code := .seq (.region 0 r1 false) (.seq (.seq (.region 1 r4 false) (.cond (.tmp 4) (.seq (.region 2 r7 false) .ret) .skip)) (.seq (.region 3 r11 false) .ret))
theorem body : Tryz.f92.body = some c0 := by kernel_rfl
def f (x0 : Sl) (S : HS) : Option ((Sl) × HS) :=
 (if (Option.isNone (Sl.a x0)) = true then
 some (Sl.nil,S) else
 (letv (HS.lit S [] 2) fun p2 =>
 ((p2.2.rows x0 2).bind fun p3 =>
 ((p2.2.app (p2.1) p3 2).bind fun p4 =>
 some ((p4.1),(p4.2))))))
theorem snd {x0 : Sl} {S : HS}  {p : (Sl) × HS} (h : f x0 S = some p) : HCall Tryz.prog base W0 β0 92 [(Sl.hv x0)] S (fun v S1 => v = (Sl.hv p.1) ∧ S1 = p.2) := by
 unfold f at h
 refine HCall.of_run at_.at_ body ?_
 show HR base W0 β0 92 none [.code c0] ⟨[(Sl.hv x0),τ,τ,τ,τ,τ,τ,τ],[]⟩ S _
 refine qQ rfl (qR rfl rfl (qS 2 rfl (ok_assign · (.const fun _ => .slNil none)) (rE ?_)))
 try dsimp only [w0,w1,w2,w3]
 refine qQ rfl (qQ rfl (qR rfl rfl (qS 3 rfl (oM · rfl) (qS 4 rfl (ok_nil_sl · tu118 (.tmp rfl) (.inl ⟨rfl,rfl⟩)) (rE ?_)))))
 try dsimp only [w0,w1,w2,w3]
 rcases ifc h with ⟨hc1,h⟩ | ⟨hc1,h⟩
 ·refine q_cond_t rfl (.tmp rfl) hc1 (qQ rfl (qR rfl rfl (qS 2 rfl (ok_assign · (.const fun _ => .slNil none)) (rE ?_))))
  cases h
  exact q_ret rfl at_.at_ rfl (res1 rfl rfl) ⟨rfl,rfl⟩
 ·obtain ⟨p2,hp2,h⟩ := leto h
  obtain ⟨p3,hp3,h⟩ := bindo h
  obtain ⟨p4,hp4,h⟩ := bindo h
  refine q_cond_f rfl (.tmp rfl) (bfalse hc1) (q_skipc rfl (qQ rfl (qR rfl rfl (qS 5 rfl (ok_buildSlice_s (xs := []) el118 · rfl rfl (by decide) Evs.nil rfl rfl hp2) (qS 6 rfl (oM · rfl) (qS 7 rfl (ok_append (s := (p2.1)) (s1 := x0) el118 · rfl rfl ⟨_,tu118⟩ (.tmp rfl) (.tmp rfl) hp3 hp4) (qS 2 rfl (oA · rfl) (rE ?_))))))))
  cases h
  exact q_ret rfl at_.at_ rfl (res1 rfl rfl) ⟨rfl,rfl⟩
end slices_Clone_book_entry_room_Room_book_entry_room_Room
namespace book_told_room_Room_1
theorem at_ : FnAt Tryz.prog 119 Tryz.f119 := ⟨Tryz.func119,by kernel_rfl⟩
def d0 := (Tryz.f119.body).getD .skip
def r1 := kR (kA d0)
def d4 := kA (kA (kB d0))
def r5 := kR (kA d4)
def r13 := kR (kA (kA (kA (kB (kB d4)))))
def r15 := kR (kA (kB (kA (kA (kB (kB d4))))))
def r19 := kR (kB (kB (kB d4)))
def c4 : Code := .seq (.region 1 r5 false) (.seq (.cond (.tmp 8) .skip (.exit 0)) (.seq (.block 1 (.seq (.region 2 r13 false) (.seq (.region 3 r15 false) (.cond (.tmp 17) .ret .skip)))) (.region 4 r19 false)))
def c0 : Code := .seq (.region 0 r1 false) (.block 0 (.loop c4))
theorem body : Tryz.f119.body = some c0 := by kernel_rfl
def L0 (D : Dp) (H : Hd) (k : Nat) : Nat → HV → Sl → Int → Int → HS → Option ((Unit) × HS)
 | 0,_,_,_,_,_ => none
 | n + 1,y0,y5,y6,y7,S =>
  (if y7 < y6 then
  ((S.idx y5 y7 2).bind fun p4 =>
  ((S.ldS (HA.fld p4 0)).bind fun p5 =>
  ((S.ldP (HA.fld p4 1)).bind fun p6 =>
  (letv (HS.new S (.cells 2 [[(.str []),(.ptr none)]] true)) fun p7 =>
  ((p7.sets (HA.cell0 S.next) [(.str p5),(.ptr p6)]).bind fun p8 =>
  ((p8.ldS (HA.fld (HA.cell0 S.next) 0)).bind fun p9 =>
  ((p8.ldP (HA.fld (HA.cell0 S.next) 1)).bind fun p10 =>
  ((D H y0 [(.str p9),(.ptr p10)] p8).bind fun p11 =>
  ((dB p11.1).bind fun p12 =>
  (if (!p12) = true then
  some ((),p11.2) else
  (L0 D H k n) y0 y5 y6 (w64 (y7 + 1)) p11.2)))))))))) else
  some ((),S))
theorem L0_snd (hD : DS base W0 D) (hH : HT base W0 β0 H)  : ∀ {n : Nat} ⦃y0 : HV⦄ ⦃y5 : Sl⦄ ⦃y6 : Int⦄ ⦃y7 : Int⦄ ⦃S : HS⦄ ⦃p : (Unit) × HS⦄ ⦃Gb Gc Gd Ge Gi Gj Gk Gl Gm Gn Go Gp Gq Gr Gs : HV⦄,L0 D H k n y0 y5 y6 y7 S = some p → HR base W0 β0 119 none [.inLoop c4,.inBlock 0] ⟨[y0,Gb,Gc,Gd,Ge,(Sl.hv y5),(.int .i64 y6),(.int .i64 y7),Gi,Gj,Gk,Gl,Gm,Gn,Go,Gp,Gq,Gr,Gs],[]⟩ S (fun v S1 => v = (.tup []) ∧ S1 = p.2) := by
 intro n
 induction n with
 | zero => intro _ _ _ _ _ _ _ _ _ _ _ _ _ _ _ _ _ _ _ _ _ h; cases h
 | succ n ih =>
  intro y0 y5 y6 y7 S p Gb Gc Gd Ge Gi Gj Gk Gl Gm Gn Go Gp Gq Gr Gs h
  simp only [L0] at h
  refine hr_inLoop (qQ rfl (qR rfl rfl (qS 8 rfl (oB · rfl rfl rfl) (rE ?_))))
  try dsimp only [w0,w1,w2,w3]
  refine qQ rfl ?_
  rcases ifc h with ⟨hc3,h⟩ | ⟨hc3,h⟩
  ·obtain ⟨p4,hp4,h⟩ := bindo h
   obtain ⟨p5,hp5,h⟩ := bindo h
   obtain ⟨p6,hp6,h⟩ := bindo h
   obtain ⟨p7,hp7,h⟩ := leto h
   obtain ⟨p8,hp8,h⟩ := bindo h
   refine q_cond_t rfl (.tmp rfl) (decide_eq_true hc3) (q_skipc rfl (qQ rfl (q_block rfl (qQ rfl (qR rfl rfl (qS 9 rfl (oX (s := y5) · tu118 sz133 rfl rfl hp4) (qS 10 rfl (ok_load_a (vs := [(.str p5),(.ptr p6)]) · ia133 (.tmp rfl) rfl ⟨ldS_out hp5,ldP_out hp6,trivial⟩ (by simp)) (qS 4 rfl (ok_alloc_e · zi133 zr133 (by decide) rfl hp7) (qN rfl (ok_store_s (v := (.agg [(.str p5),(.ptr p6)])) · sz133 (.tmp rfl) rfl (.tmp rfl) rfl hp8) (rE ?_))))))))))
   try dsimp only [w0,w1,w2,w3]
   obtain ⟨p9,hp9,h⟩ := bindo h
   refine qQ rfl (qR rfl rfl (qS 11 rfl (oM · rfl) (qS 12 rfl (oF · fi133_0 (by decide) rfl rfl) (qS 13 rfl (oL · sc9 rfl rfl (ldS_out hp9)) (qS 14 rfl (oF · fi133_1 (by decide) rfl rfl) ?_)))))
   try dsimp only [w0,w1,w2,w3]
   obtain ⟨p10,hp10,h⟩ := bindo h
   obtain ⟨p11,hp11,h⟩ := bindo h
   obtain ⟨p12,hp12,h⟩ := bindo h
   refine qS 15 rfl (oL · sc36 rfl rfl (ldP_out hp10)) (q_call (dst := some 16) rfl (.tmp rfl) (.cons (.tmp rfl) (.cons (.tmp rfl) Evs.nil)) (hD _ _ hH _ _ _ _ _ hp11) ?_)
   rintro _ _ ⟨rfl,rfl⟩
   rw [dB_out hp12]
   refine qS 17 rfl (ok_not · (.tmp rfl)) (rE ?_)
   try dsimp only [w0,w1,w2,w3]
   rcases ifc h with ⟨hc13,h⟩ | ⟨hc13,h⟩
   ·cases h
    exact q_cond_t rfl (.tmp rfl) hc13 (q_ret rfl at_.at_ rfl (res0 rfl) ⟨rfl,rfl⟩)
   ·refine q_cond_f rfl (.tmp rfl) (bfalse hc13) (q_skipc rfl (hr_inBlock (qR rfl rfl (qS 18 rfl (oC · rfl rfl) (qS 7 rfl (oM · rfl) (rE ?_))))))
    try dsimp only [w0,w1,w2,w3]
    exact ih h
  ·cases h
   exact q_cond_f rfl (.tmp rfl) (decide_eq_false hc3) (q_exit rfl rfl (q_end at_.at_ rfl (res0 rfl) ⟨rfl,rfl⟩))
def f (D : Dp) (H : Hd) (k : Nat) (x0 : HV) (x1 : HP) (S : HS) : Option ((Unit) × HS) :=
 (x1.bind fun p1 =>
 ((S.ldSl p1).bind fun p2 =>
 L0 D H k k x0 p2 (Sl.len p2 : Int) 0 S))
theorem snd {x0 : HV} {x1 : HP} {S : HS} (hD : DS base W0 D) (hH : HT base W0 β0 H)  {p : (Unit) × HS} (h : f D H k x0 x1 S = some p) : HCall Tryz.prog base W0 β0 119 [x0,(.ptr x1)] S (fun v S1 => v = (.tup []) ∧ S1 = p.2) := by
 unfold f at h
 refine HCall.of_run at_.at_ body ?_
 show HR base W0 β0 119 none [.code c0] ⟨[x0,(.ptr x1),τ,τ,τ,τ,τ,τ,τ,τ,τ,τ,τ,τ,τ,τ,τ,τ,τ],[]⟩ S _
 obtain ⟨p1,hp1,h⟩ := bindo h
 obtain ⟨p2,hp2,h⟩ := bindo h
 refine qQ rfl (qR rfl rfl (qS 5 rfl (oL · sc118 rfl hp1 (ldSl_out hp2)) (qS 6 rfl (ok_len_sl (q := Sl.a p2) (n := Sl.len p2) (z := Sl.cap p2) · rfl tu118 (.tmp rfl)) (qS 7 rfl (ok_move · (.int _ _)) (rE ?_)))))
 try dsimp only [w0,w1,w2,w3]
 refine q_block rfl (q_loop rfl ?_)
 try dsimp only [w0,w1,w2,w3]
 exact L0_snd hD hH h
end book_told_room_Room_1
namespace book_told_room_Room
theorem at_ : FnAt Tryz.prog 91 Tryz.f91 := ⟨Tryz.func91,by kernel_rfl⟩
def d0 := (Tryz.f91.body).getD .skip
def r1 := kR (kA d0)
def r3 := kR (kA (kB d0))
def c0 : Code := .seq (.region 0 r1 false) (.seq (.region 1 r3 false) .ret)
theorem body : Tryz.f91.body = some c0 := by kernel_rfl
def f (x0 : Sl) (S : HS) : Option ((HV) × HS) :=
 (letv (HS.new S (.cells 1 [[(Sl.hv x0)]] true)) fun p1 =>
 some ((HV.fn (.func 119) [] [(.ptr (some (HA.cell0 S.next)))]),p1))
theorem snd {x0 : Sl} {S : HS}  {p : (HV) × HS} (h : f x0 S = some p) : HCall Tryz.prog base W0 β0 91 [(Sl.hv x0)] S (fun v S1 => v = p.1 ∧ S1 = p.2) := by
 unfold f at h
 refine HCall.of_run at_.at_ body ?_
 show HR base W0 β0 91 none [.code c0] ⟨[(Sl.hv x0),τ,τ,τ],[]⟩ S _
 obtain ⟨p1,hp1,h⟩ := leto h
 refine qQ rfl (qR rfl rfl (qS 1 rfl (ok_box_e · (.tmp rfl) (Nat.zero_lt_succ _) rfl hp1) (qS 2 rfl (ok_assign · (.const fun _ => .nilFn)) (rE ?_))))
 try dsimp only [w0,w1,w2,w3]
 refine qQ rfl (qR rfl rfl (qS 3 rfl (ok_makeFunc · Evs.nil (.cons (.tmp rfl) Evs.nil)) (qS 2 rfl (oA · rfl) (rE ?_))))
 cases h
 exact q_ret rfl at_.at_ rfl (res1 rfl rfl) ⟨rfl,rfl⟩
end book_told_room_Room
namespace book_Book_room_Room_All
theorem at_ : FnAt Tryz.prog 60 Tryz.f60 := ⟨Tryz.func60,by kernel_rfl⟩
def d0 := (Tryz.f60.body).getD .skip
def r1 := kR (kA d0)
def r4 := kR (kA (kA (kB d0)))
def r7 := kR (kA (kA (kB (kA (kB d0)))))
def r11 := kR (kA (kB (kB d0)))
def c0 : Code := .seq (.region 0 r1 false) (.seq (.seq (.region 1 r4 false) (.cond (.tmp 4) (.seq (.region 2 r7 false) .ret) .skip)) (.seq (.region 3 r11 false) .ret))
theorem body : Tryz.f60.body = some c0 := by kernel_rfl
def f (x0 : HP) (S : HS) : Option ((HV) × HS) :=
 (if (Option.isNone x0) = true then
 some ((HV.fn (.func 90) [] []),S) else
 (x0.bind fun p2 =>
 ((S.ldSl (HA.fld p2 1)).bind fun p3 =>
 ((slices_Clone_book_entry_room_Room_book_entry_room_Room.f p3 S).bind fun p4 =>
 ((book_told_room_Room.f p4.1 p4.2).bind fun p5 =>
 some (p5.1,p5.2))))))
theorem snd {x0 : HP} {S : HS}  {p : (HV) × HS} (h : f x0 S = some p) : HCall Tryz.prog base W0 β0 60 [(.ptr x0)] S (fun v S1 => v = p.1 ∧ S1 = p.2) := by
 unfold f at h
 refine HCall.of_run at_.at_ body ?_
 show HR base W0 β0 60 none [.code c0] ⟨[(.ptr x0),τ,τ,τ,τ,τ,τ,τ,τ,τ,τ],[]⟩ S _
 refine qQ rfl (qR rfl rfl (qS 2 rfl (ok_assign · (.const fun _ => .nilFn)) (rE ?_)))
 try dsimp only [w0,w1,w2,w3]
 refine qQ rfl (qQ rfl (qR rfl rfl (qS 3 rfl (oM · rfl) (qS 4 rfl (ok_nil_ptr · tu75 (.tmp rfl) (.inl ⟨rfl,rfl⟩)) (rE ?_)))))
 try dsimp only [w0,w1,w2,w3]
 rcases ifc h with ⟨hc1,h⟩ | ⟨hc1,h⟩
 ·refine q_cond_t rfl (.tmp rfl) hc1 (qQ rfl (qR rfl rfl (qS 2 rfl (ok_assign · (.func _)) (rE ?_))))
  cases h
  exact q_ret rfl at_.at_ rfl (res1 rfl rfl) ⟨rfl,rfl⟩
 ·obtain ⟨p2,hp2,h⟩ := bindo h
  obtain ⟨p3,hp3,h⟩ := bindo h
  refine q_cond_f rfl (.tmp rfl) (bfalse hc1) (q_skipc rfl (qQ rfl (qR rfl rfl (qS 5 rfl (oM · rfl) (qS 6 rfl (oN · rfl hp2) (qS 7 rfl (oF · fi120_1 (by decide) rfl rfl) (qS 8 rfl (oL · sc118 rfl rfl (ldSl_out hp3)) ?_)))))))
  try dsimp only [w0,w1,w2,w3]
  obtain ⟨p4,hp4,h⟩ := bindo h
  refine q_call (dst := some 9) rfl (.func _) (.cons (.tmp rfl) Evs.nil) (HInv.static slices_Clone_book_entry_room_Room_book_entry_room_Room.at_ slices_Clone_book_entry_room_Room_book_entry_room_Room.body (slices_Clone_book_entry_room_Room_book_entry_room_Room.snd  hp4)) ?_
  rintro _ _ ⟨rfl,rfl⟩
  obtain ⟨p5,hp5,h⟩ := bindo h
  refine q_call (dst := some 10) rfl (.func _) (.cons (.tmp rfl) Evs.nil) (HInv.static book_told_room_Room.at_ book_told_room_Room.body (book_told_room_Room.snd  hp5)) ?_
  rintro _ _ ⟨rfl,rfl⟩
  refine qS 2 rfl (oA · rfl) (rE ?_)
  cases h
  exact q_ret rfl at_.at_ rfl (res1 rfl rfl) ⟨rfl,rfl⟩
end book_Book_room_Room_All
namespace rooms_Rooms_All_2
theorem at_ : FnAt Tryz.prog 61 Tryz.f61 := ⟨Tryz.func61,by kernel_rfl⟩
def d0 := (Tryz.f61.body).getD .skip
def r1 := kR (kA d0)
def r3 := kR (kA (kB d0))
def r6 := kR (kA (kA (kB (kB d0))))
def r9 := kR (kA (kA (kB (kA (kB (kB d0))))))
def c7 : Code := .block 1 (.seq (.region 3 r9 false) (.cond (.tmp 11) .ret .skip))
def c6 : Code := .region 2 r6 false
def c0 : Code := .seq (.region 0 r1 false) (.seq (.region 1 r3 false) (.block 0 (.rangeFunc (.tmp 5) #[6,7] c6 c7)))
theorem body : Tryz.f61.body = some c0 := by kernel_rfl
def J0 (D : Dp) (H : Hd) (l : Nat) (y2 : HP) (y7 : HP) (S : HS) : Option (HV × HS) :=
 ((S.begin_ l).bind fun p5 =>
 (y2.bind fun p6 =>
 ((p5.ldF p6).bind fun p7 =>
 ((D H p7 [(.ptr y7)] p5).bind fun p8 =>
 ((dB p8.1).bind fun p9 =>
 (if (!p9) = true then
 (HS.endr p8.2 l (some .ret)) else
 (HS.endr p8.2 l none)))))))
theorem J0_snd {l : Nat} (hD : DS base W0 D) (hH : HT base W0 β0 H)  {y2 : HP} {y7 : HP} {S : HS} {p : HV × HS} (h : J0 D H l y2 y7 S = some p) : HR base W0 β0 61 (some l) [.code c6,.beginRound,.code c7] ⟨[Ga,Gb,(.ptr y2),Gd,Ge,Gf,Gg,(.ptr y7),Gi,Gj,Gk,Gl],[]⟩ S (fun v S1 => v = p.1 ∧ S1 = p.2) := by
 unfold J0 at h
 refine qR rfl rfl (qS 4 rfl (oA · rfl) (rE ?_))
 try dsimp only [w0,w1,w2,w3]
 obtain ⟨p5,hp5,h⟩ := bindo h
 refine q_begin hp5 ?_
 obtain ⟨p6,hp6,h⟩ := bindo h
 obtain ⟨p7,hp7,h⟩ := bindo h
 obtain ⟨p8,hp8,h⟩ := bindo h
 obtain ⟨p9,hp9,h⟩ := bindo h
 refine q_block rfl (qQ rfl (qR rfl rfl (qS 8 rfl (oL · sc105 rfl hp6 (ldF_out hp7)) (qS 9 rfl (oM · rfl) (q_call (dst := some 10) rfl (.tmp rfl) (.cons (.tmp rfl) Evs.nil) (hD _ _ hH _ _ _ _ _ hp8) ?_)))))
 rintro _ _ ⟨rfl,rfl⟩
 rw [dB_out hp9]
 refine qS 11 rfl (ok_not · (.tmp rfl)) (rE ?_)
 try dsimp only [w0,w1,w2,w3]
 rcases ifc h with ⟨hc10,h⟩ | ⟨hc10,h⟩
 ·refine q_cond_t rfl (.tmp rfl) hc10 ?_
  exact q_round_ret rfl h ⟨rfl,rfl⟩
 ·refine q_cond_f rfl (.tmp rfl) (bfalse hc10) (q_skipc rfl (hr_inBlock ?_))
  exact q_round_end h ⟨rfl,rfl⟩
def f (D : Dp) (H : Hd) (x0 : HV) (x1 : HP) (S : HS) : Option ((Unit) × HS) :=
 ((dF x0).bind fun p1 =>
 (letv (HS.new S (.cells 1 [[p1]] true)) fun p2 =>
 (x1.bind fun p3 =>
 ((p2.ldF p3).bind fun p4 =>
 ((D (Hd.set H (HS.next p2 + 1) fun vs T =>
 ((T.lp (HS.next p2 + 1)).bind fun u14 =>
 ((args2 vs).bind fun ar11 =>
 ((dS ar11.1).bind fun p12 =>
 ((dP ar11.2).bind fun p13 =>
 (J0 D H (HS.next p2 + 1) (some (HA.cell0 S.next)) p13 T)))))) p4 [.fn (.yield (HS.next p2 + 1)) [] []] (HS.new (HS.new p2 .defer) (.loop .ready none))).bind fun p15 =>
 ((p15.2.finish (HS.next p2 + 1)).bind fun p16 =>
 ((pcode p16.1).bind fun n17 =>
 (if n17 = 0 then
 ((p16.2.leave (HS.next p2 :: [])).bind fun p19 =>
 some ((),p19)) else
 (if n17 = 1 then
 ((p16.2.leave (HS.next p2 :: [])).bind fun p21 =>
 some ((),p21)) else
 none)))))))))
theorem snd {x0 : HV} {x1 : HP} {S : HS} (hD : DS base W0 D) (hH : HT base W0 β0 H)  {p : (Unit) × HS} (h : f D H x0 x1 S = some p) : HCall Tryz.prog base W0 β0 61 [x0,(.ptr x1)] S (fun v S1 => v = (.tup []) ∧ S1 = p.2) := by
 unfold f at h
 refine HCall.of_run at_.at_ body ?_
 show HR base W0 β0 61 none [.code c0] ⟨[x0,(.ptr x1),τ,τ,τ,τ,τ,τ,τ,τ,τ,τ],[]⟩ S _
 obtain ⟨p1,hp1,h⟩ := bindo h
 obtain ⟨p2,hp2,h⟩ := leto h
 refine qQ rfl (qR rfl rfl (qS 2 rfl (ok_box_fn · (.tmp rfl) hp1 hp2) (rE ?_)))
 try dsimp only [w0,w1,w2,w3]
 obtain ⟨p3,hp3,h⟩ := bindo h
 obtain ⟨p4,hp4,h⟩ := bindo h
 refine qQ rfl (qR rfl rfl (qS 5 rfl (oL · sc107 rfl hp3 (ldF_out hp4)) (rE ?_)))
 try dsimp only [w0,w1,w2,w3]
 obtain ⟨p15,hp15,h⟩ := bindo h
 obtain ⟨p16,hp16,h⟩ := bindo h
 obtain ⟨n17,hn17,h⟩ := bindo h
 refine q_block rfl ?_
 refine q_range (D := D) (H := H) rfl (.tmp rfl) hD hH hp15 hp16 ?_ ?_
 ·intro β1 hle hLA vs T u T' hr
  obtain ⟨u14,hu14,hr⟩ := bindo hr
  obtain ⟨ar11,har11,hr⟩ := bindo hr
  obtain ⟨p12,hp12,hr⟩ := bindo hr
  obtain ⟨p13,hp13,hr⟩ := bindo hr
  rw [args2_out har11]
  refine q_yield2 hLA hu14 rfl rfl ?_
  rw [dS_out hp12,dP_out hp13]
  simp only [HAct.params,List.set_cons_zero,List.set_cons_succ]
  exact J0_snd hD (hH.up hle) hr
 ·rcases ifc h with ⟨hc18,h⟩ | ⟨hc18,h⟩
  ·rw [pcode0 hn17 hc18]
   simp only [jumped_none,jumped_some]
   obtain ⟨p19,hp19,h⟩ := bindo h
   cases h
   exact hr_inBlock (q_end at_.at_ hp19 (res0 rfl) ⟨rfl,rfl⟩)
  ·rcases ifc h with ⟨hc20,h⟩ | ⟨hc20,h⟩
   ·rw [pcode1 hn17 hc20]
    simp only [jumped_none,jumped_some]
    obtain ⟨p21,hp21,h⟩ := bindo h
    cases h
    exact q_ret rfl at_.at_ hp21 (res0 rfl) ⟨rfl,rfl⟩
   ·cases h
end rooms_Rooms_All_2
namespace rooms_Rooms_All
theorem at_ : FnAt Tryz.prog 21 Tryz.f21 := ⟨Tryz.func21,by kernel_rfl⟩
def d0 := (Tryz.f21.body).getD .skip
def r1 := kR (kA d0)
def r4 := kR (kA (kA (kB d0)))
def r7 := kR (kA (kA (kB (kA (kB d0)))))
def r11 := kR (kA (kB (kB d0)))
def r13 := kR (kA (kB (kB (kB d0))))
def c0 : Code := .seq (.region 0 r1 false) (.seq (.seq (.region 1 r4 false) (.cond (.tmp 5) (.seq (.region 2 r7 false) .ret) .skip)) (.seq (.region 3 r11 false) (.seq (.region 4 r13 false) .ret)))
theorem body : Tryz.f21.body = some c0 := by kernel_rfl
def f (x0 : HP) (S : HS) : Option ((HV) × HS) :=
 (if (Option.isNone x0) = true then
 some ((HV.fn (.func 59) [] []),S) else
 (x0.bind fun p2 =>
 ((S.ldP (HA.fld p2 15)).bind fun p3 =>
 ((book_Book_room_Room_All.f p3 S).bind fun p4 =>
 (letv (HS.new p4.2 (.cells 1 [[.nilFn]] true)) fun p5 =>
 ((dF p4.1).bind fun p6 =>
 ((p5.sets (HA.cell0 p4.2.next) [p6]).bind fun p7 =>
 some ((HV.fn (.func 61) [] [(.ptr (some (HA.cell0 p4.2.next)))]),p7))))))))
theorem snd {x0 : HP} {S : HS}  {p : (HV) × HS} (h : f x0 S = some p) : HCall Tryz.prog base W0 β0 21 [(.ptr x0)] S (fun v S1 => v = p.1 ∧ S1 = p.2) := by
 unfold f at h
 refine HCall.of_run at_.at_ body ?_
 show HR base W0 β0 21 none [.code c0] ⟨[(.ptr x0),τ,τ,τ,τ,τ,τ,τ,τ,τ,τ,τ],[]⟩ S _
 refine qQ rfl (qR rfl rfl (qS 2 rfl (ok_assign · (.const fun _ => .nilFn)) (rE ?_)))
 try dsimp only [w0,w1,w2,w3]
 refine qQ rfl (qQ rfl (qR rfl rfl (qS 4 rfl (oM · rfl) (qS 5 rfl (ok_nil_ptr · tu25 (.tmp rfl) (.inl ⟨rfl,rfl⟩)) (rE ?_)))))
 try dsimp only [w0,w1,w2,w3]
 rcases ifc h with ⟨hc1,h⟩ | ⟨hc1,h⟩
 ·refine q_cond_t rfl (.tmp rfl) hc1 (qQ rfl (qR rfl rfl (qS 2 rfl (ok_assign · (.func _)) (rE ?_))))
  cases h
  exact q_ret rfl at_.at_ rfl (res1 rfl rfl) ⟨rfl,rfl⟩
 ·obtain ⟨p2,hp2,h⟩ := bindo h
  obtain ⟨p3,hp3,h⟩ := bindo h
  refine q_cond_f rfl (.tmp rfl) (bfalse hc1) (q_skipc rfl (qQ rfl (qR rfl rfl (qS 6 rfl (oM · rfl) (qS 7 rfl (oN · rfl hp2) (qS 8 rfl (oF · fi83_1 (by decide) rfl rfl) (qS 9 rfl (oL · sc75 rfl rfl (ldP_out hp3)) ?_)))))))
  try dsimp only [w0,w1,w2,w3]
  obtain ⟨p4,hp4,h⟩ := bindo h
  refine q_call (dst := some 10) rfl (.func _) (.cons (.tmp rfl) Evs.nil) (HInv.static book_Book_room_Room_All.at_ book_Book_room_Room_All.body (book_Book_room_Room_All.snd  hp4)) ?_
  rintro _ _ ⟨rfl,rfl⟩
  obtain ⟨p5,hp5,h⟩ := leto h
  obtain ⟨p6,hp6,h⟩ := bindo h
  obtain ⟨p7,hp7,h⟩ := bindo h
  refine qS 3 rfl (ok_alloc_e · zi107 zr107 (by decide) rfl hp5) (qN rfl (ok_store_fn · sz107 (.tmp rfl) rfl (.tmp rfl) hp6 hp7) (rE ?_))
  try dsimp only [w0,w1,w2,w3]
  refine qQ rfl (qR rfl rfl (qS 11 rfl (ok_makeFunc · Evs.nil (.cons (.tmp rfl) Evs.nil)) (qS 2 rfl (oA · rfl) (rE ?_))))
  cases h
  exact q_ret rfl at_.at_ rfl (res1 rfl rfl) ⟨rfl,rfl⟩
end rooms_Rooms_All
namespace room_Room_Name
theorem at_ : FnAt Tryz.prog 25 Tryz.f25 := ⟨Tryz.func25,by kernel_rfl⟩
def d0 := (Tryz.f25.body).getD .skip
def r1 := kR (kA d0)
def r4 := kR (kA (kA (kB d0)))
def r7 := kR (kA (kA (kB (kA (kB d0)))))
def r11 := kR (kA (kB (kB d0)))
def c0 : Code := .seq (.region 0 r1 false) (.seq (.seq (.region 1 r4 false) (.cond (.tmp 4) (.seq (.region 2 r7 false) .ret) .skip)) (.seq (.region 3 r11 false) .ret))
theorem body : Tryz.f25.body = some c0 := by kernel_rfl
def f (x0 : HP) (S : HS) : Option (((List UInt8)) × HS) :=
 (if (Option.isNone x0) = true then
 some (([] : List UInt8),S) else
 (x0.bind fun p2 =>
 ((S.ldS (HA.fld p2 0)).bind fun p3 =>
 some (p3,S))))
theorem snd {x0 : HP} {S : HS}  {p : ((List UInt8)) × HS} (h : f x0 S = some p) : HCall Tryz.prog base W0 β0 25 [(.ptr x0)] S (fun v S1 => v = (.str p.1) ∧ S1 = p.2) := by
 unfold f at h
 refine HCall.of_run at_.at_ body ?_
 show HR base W0 β0 25 none [.code c0] ⟨[(.ptr x0),τ,τ,τ,τ,τ,τ,τ,τ],[]⟩ S _
 refine qQ rfl (qR rfl rfl (qS 2 rfl (ok_assign · (.str _)) (rE ?_)))
 try dsimp only [w0,w1,w2,w3]
 refine qQ rfl (qQ rfl (qR rfl rfl (qS 3 rfl (oM · rfl) (qS 4 rfl (ok_nil_ptr · tu36 (.tmp rfl) (.inl ⟨rfl,rfl⟩)) (rE ?_)))))
 try dsimp only [w0,w1,w2,w3]
 rcases ifc h with ⟨hc1,h⟩ | ⟨hc1,h⟩
 ·refine q_cond_t rfl (.tmp rfl) hc1 (qQ rfl (qR rfl rfl (qS 2 rfl (ok_assign · (.str _)) (rE ?_))))
  cases h
  exact q_ret rfl at_.at_ rfl (res1 rfl rfl) ⟨rfl,rfl⟩
 ·obtain ⟨p2,hp2,h⟩ := bindo h
  obtain ⟨p3,hp3,h⟩ := bindo h
  refine q_cond_f rfl (.tmp rfl) (bfalse hc1) (q_skipc rfl (qQ rfl (qR rfl rfl (qS 5 rfl (oM · rfl) (qS 6 rfl (oN · rfl hp2) (qS 7 rfl (oF · fi114_0 (by decide) rfl rfl) (qS 8 rfl (oL · sc9 rfl rfl (ldS_out hp3)) ?_)))))))
  try dsimp only [w0,w1,w2,w3]
  refine qS 2 rfl (oA · rfl) (rE ?_)
  cases h
  exact q_ret rfl at_.at_ rfl (res1 rfl rfl) ⟨rfl,rfl⟩
end room_Room_Name
namespace rooms_Rooms_Get
theorem at_ : FnAt Tryz.prog 31 Tryz.f31 := ⟨Tryz.func31,by kernel_rfl⟩
def d0 := (Tryz.f31.body).getD .skip
def r1 := kR (kA d0)
def r4 := kR (kA (kA (kB d0)))
def r7 := kR (kA (kA (kB (kA (kB d0)))))
def r11 := kR (kA (kB (kB d0)))
def c0 : Code := .seq (.region 0 r1 false) (.seq (.seq (.region 1 r4 false) (.cond (.tmp 7) (.seq (.region 2 r7 false) .ret) .skip)) (.seq (.region 3 r11 false) .ret))
theorem body : Tryz.f31.body = some c0 := by kernel_rfl
def f (D : Dp) (H : Hd) (k : Nat) (x0 : HP) (x1 : (List UInt8)) (S : HS) : Option ((HP × Bool) × HS) :=
 (if (Option.isNone x0) = true then
 some ((none,false),S) else
 (x0.bind fun p2 =>
 ((S.ldP (HA.fld p2 15)).bind fun p3 =>
 ((book_Book_room_Room_Get.f D H k p3 x1 S).bind fun p4 =>
 some ((p4.1.1,p4.1.2),p4.2)))))
theorem snd {x0 : HP} {x1 : (List UInt8)} {S : HS} (hD : DS base W0 D) (hH : HT base W0 β0 H)  {p : (HP × Bool) × HS} (h : f D H k x0 x1 S = some p) : HCall Tryz.prog base W0 β0 31 [(.ptr x0),(.str x1)] S (fun v S1 => v = (.tup [(.ptr p.1.1),(.bool p.1.2)]) ∧ S1 = p.2) := by
 unfold f at h
 refine HCall.of_run at_.at_ body ?_
 show HR base W0 β0 31 none [.code c0] ⟨[(.ptr x0),(.str x1),τ,τ,τ,τ,τ,τ,τ,τ,τ,τ,τ,τ,τ,τ],[]⟩ S _
 refine qQ rfl (qR rfl rfl (qS 4 rfl (ok_assign · (.const fun _ => .ptrNil)) (qS 5 rfl (ok_assign · (.bool _)) (rE ?_))))
 try dsimp only [w0,w1,w2,w3]
 refine qQ rfl (qQ rfl (qR rfl rfl (qS 6 rfl (oM · rfl) (qS 7 rfl (ok_nil_ptr · tu25 (.tmp rfl) (.inl ⟨rfl,rfl⟩)) (rE ?_)))))
 try dsimp only [w0,w1,w2,w3]
 rcases ifc h with ⟨hc1,h⟩ | ⟨hc1,h⟩
 ·refine q_cond_t rfl (.tmp rfl) hc1 (qQ rfl (qR rfl rfl (qS 4 rfl (ok_assign · (.const fun _ => .ptrNil)) (qS 5 rfl (ok_assign · (.bool _)) (rE ?_)))))
  cases h
  exact q_ret rfl at_.at_ rfl (res2 rfl rfl rfl) ⟨rfl,rfl⟩
 ·obtain ⟨p2,hp2,h⟩ := bindo h
  obtain ⟨p3,hp3,h⟩ := bindo h
  refine q_cond_f rfl (.tmp rfl) (bfalse hc1) (q_skipc rfl (qQ rfl (qR rfl rfl (qS 8 rfl (oM · rfl) (qS 9 rfl (oN · rfl hp2) (qS 10 rfl (oF · fi83_1 (by decide) rfl rfl) (qS 11 rfl (oL · sc75 rfl rfl (ldP_out hp3)) ?_)))))))
  try dsimp only [w0,w1,w2,w3]
  obtain ⟨p4,hp4,h⟩ := bindo h
  refine qS 12 rfl (oM · rfl) (q_call (dst := some 13) rfl (.func _) (.cons (.tmp rfl) (.cons (.tmp rfl) Evs.nil)) (HInv.static book_Book_room_Room_Get.at_ book_Book_room_Room_Get.body (book_Book_room_Room_Get.snd hD hH hp4)) ?_)
  rintro _ _ ⟨rfl,rfl⟩
  refine qS 14 rfl (ok_extract · (.tmp rfl) rfl) (qS 15 rfl (ok_extract · (.tmp rfl) rfl) ?_)
  try dsimp only [w0,w1,w2,w3]
  refine qS 4 rfl (oA · rfl) (qS 5 rfl (oA · rfl) (rE ?_))
  cases h
  exact q_ret rfl at_.at_ rfl (res2 rfl rfl rfl) ⟨rfl,rfl⟩
end rooms_Rooms_Get
namespace slices_Delete_string_string
theorem at_ : FnAt Tryz.prog 123 Tryz.f123 := ⟨Tryz.func123,by kernel_rfl⟩
def d0 := (Tryz.f123.body).getD .skip
def r1 := kR (kA d0)
def r3 := kR (kA (kB d0))
def r6 := kR (kA (kA (kB (kB d0))))
def r9 := kR (kA (kA (kB (kA (kB (kB d0))))))
def d12 := kB (kB (kB d0))
def r13 := kR (kA d12)
def r15 := kR (kA (kB d12))
def r17 := kR (kA (kB (kB d12)))
def r19 := kR (kA (kB (kB (kB d12))))
def c0 : Code := .seq (.region 0 r1 false) (.seq (.region 1 r3 false) (.seq (.seq (.region 2 r6 false) (.cond (.tmp 16) (.seq (.region 3 r9 false) .ret) .skip)) (.seq (.region 4 r13 false) (.seq (.region 5 r15 true) (.seq (.region 6 r17 false) (.seq (.region 7 r19 false) .ret))))))
theorem body : Tryz.f123.body = some c0 := by kernel_rfl
def f (x0 : Sl) (x1 : Int) (x2 : Int) (S : HS) : Option ((Sl) × HS) :=
 ((S.cut3 x0 x1 x2 (Sl.len x0 : Int) 1).bind fun p1 =>
 (if x1 = x2 then
 some (x0,S) else
 ((S.cut x0 0 x1 1).bind fun p3 =>
 ((S.cut x0 x2 (Sl.len x0 : Int) 1).bind fun p4 =>
 ((S.rows p4 1).bind fun p5 =>
 ((S.app p3 p5 1).bind fun p6 =>
 ((p6.2.cut (p6.1) (Sl.len (p6.1) : Int) (Sl.len x0 : Int) 1).bind fun p7 =>
 ((p6.2.over p7 (List.replicate (Sl.len p7) [(.str [])]) 1).bind fun p8 =>
 some ((p6.1),p8)))))))))
theorem snd {x0 : Sl} {x1 : Int} {x2 : Int} {S : HS}  {p : (Sl) × HS} (h : f x0 x1 x2 S = some p) : HCall Tryz.prog base W0 β0 123 [(Sl.hv x0),(.int .i64 x1),(.int .i64 x2)] S (fun v S1 => v = (Sl.hv p.1) ∧ S1 = p.2) := by
 unfold f at h
 refine HCall.of_run at_.at_ body ?_
 show HR base W0 β0 123 none [.code c0] ⟨[(Sl.hv x0),(.int .i64 x1),(.int .i64 x2),τ,τ,τ,τ,τ,τ,τ,τ,τ,τ,τ,τ,τ,τ,τ,τ,τ,τ,τ,τ,τ,τ,τ,τ,τ,τ,τ,τ,τ,τ],[]⟩ S _
 refine qQ rfl (qR rfl rfl (qS 6 rfl (ok_assign · (.const fun _ => .slNil none)) (rE ?_)))
 try dsimp only [w0,w1,w2,w3]
 refine qQ rfl (qR rfl rfl (qS 8 rfl (oM · rfl) (qS 9 rfl (oM · rfl) (qS 10 rfl (oM · rfl) (qS 11 rfl (oM · rfl) ?_)))))
 try dsimp only [w0,w1,w2,w3]
 obtain ⟨p1,hp1,h⟩ := bindo h
 refine qS 12 rfl (ok_len_sl (q := Sl.a x0) (n := Sl.len x0) (z := Sl.cap x0) · rfl tu57 (.tmp rfl)) (qS 13 rfl (ok_slice3 (kl := .i64) (kh := .i64) (s := x0) (l := x1) (h := x2) · tu57 si9 (.tmp rfl) (.inr ⟨_,rfl,(.tmp rfl)⟩) (.inr ⟨_,rfl,(.tmp rfl)⟩) (.tmp rfl) hp1) (rE ?_))
 try dsimp only [w0,w1,w2,w3]
 refine qQ rfl (qQ rfl (qR rfl rfl (qS 14 rfl (oM · rfl) (qS 15 rfl (oM · rfl) (qS 16 rfl (oB · rfl rfl rfl) (rE ?_))))))
 try dsimp only [w0,w1,w2,w3]
 rcases ifc h with ⟨hc2,h⟩ | ⟨hc2,h⟩
 ·refine q_cond_t rfl (.tmp rfl) (decide_eq_true hc2) (qQ rfl (qR rfl rfl (qS 17 rfl (oM · rfl) (qS 6 rfl (oA · rfl) (rE ?_)))))
  cases h
  exact q_ret rfl at_.at_ rfl (res1 rfl rfl) ⟨rfl,rfl⟩
 ·refine q_cond_f rfl (.tmp rfl) (decide_eq_false hc2) (q_skipc rfl (qQ rfl (qR rfl rfl (qS 18 rfl (oM · rfl) (qS 19 rfl (ok_len_sl (q := Sl.a x0) (n := Sl.len x0) (z := Sl.cap x0) · rfl tu57 (.tmp rfl)) (qS 7 rfl (oA · rfl) (rE ?_)))))))
  try dsimp only [w0,w1,w2,w3]
  refine qQ rfl ?_
  refine x_start (cls := [0,0,1,0,0,1,2,0]) (rk := [0,1,2,3,4,5,6,7]) rfl (by kernel_rfl) ?_
  refine yf 20 [0] rfl (oM · rfl) ?_
  refine yf 21 [1] rfl (oM · rfl) ?_
  obtain ⟨p3,hp3,h⟩ := bindo h
  refine yr 22 [20,21] rfl (ok_slice (kl := .i64) (kh := .i64) (s := x0) (l := 0) (h := x1) · tu57 si9 (.tmp rfl) (.inl ⟨rfl,rfl⟩) (.inr ⟨_,rfl,(.tmp rfl)⟩) hp3) ?_
  refine yf 23 [0] rfl (oM · rfl) ?_
  try dsimp only [w0,w1,w2,w3]
  refine yf 24 [2] rfl (oM · rfl) ?_
  obtain ⟨p4,hp4,h⟩ := bindo h
  refine yr 25 [23,24] rfl (ok_slice (kl := .i64) (kh := .i64) (s := x0) (l := x2) (h := (Sl.len x0 : Int)) · tu57 si9 (.tmp rfl) (.inr ⟨_,rfl,(.tmp rfl)⟩) (.inl ⟨rfl,rfl⟩) hp4) ?_
  obtain ⟨p5,hp5,h⟩ := bindo h
  obtain ⟨p6,hp6,h⟩ := bindo h
  refine ye 26 [22,25] rfl (ok_append (s := p3) (s1 := p4) el57 · rfl rfl ⟨_,tu57⟩ (.tmp rfl) (.tmp rfl) hp5 hp6) ?_
  refine yf 0 [26] rfl (oA · rfl) ?_
  refine x_rest rfl ?_
  refine rE ?_
  try dsimp only [w0,w1,w2,w3]
  refine qQ rfl (qR rfl rfl (qS 27 rfl (oM · rfl) (qS 28 rfl (oM · rfl) (qS 29 rfl (ok_len_sl (q := Sl.a (p6.1)) (n := Sl.len (p6.1)) (z := Sl.cap (p6.1)) · rfl tu57 (.tmp rfl)) (qS 30 rfl (oM · rfl) ?_)))))
  try dsimp only [w0,w1,w2,w3]
  obtain ⟨p7,hp7,h⟩ := bindo h
  obtain ⟨p8,hp8,h⟩ := bindo h
  refine qS 31 rfl (ok_slice (kl := .i64) (kh := .i64) (s := (p6.1)) (l := (Sl.len (p6.1) : Int)) (h := (Sl.len x0 : Int)) · tu57 si9 (.tmp rfl) (.inr ⟨_,rfl,(.tmp rfl)⟩) (.inr ⟨_,rfl,(.tmp rfl)⟩) hp7) (qN rfl (ok_clear (s := p7) el57 · rfl (.tmp rfl) hp8) (rE ?_))
  try dsimp only [w0,w1,w2,w3]
  refine qQ rfl (qR rfl rfl (qS 32 rfl (oM · rfl) (qS 6 rfl (oA · rfl) (rE ?_))))
  cases h
  exact q_ret rfl at_.at_ rfl (res1 rfl rfl) ⟨rfl,rfl⟩
end slices_Delete_string_string
namespace slices_Delete_string_string_w
theorem at_ : FnAt Tryz.prog 123 Tryz.f123 := slices_Delete_string_string.at_
theorem body : Tryz.f123.body = some slices_Delete_string_string.c0 := slices_Delete_string_string.body
def f (x0 : Sl) (x1 : Int) (x2 : Int) (S : HS) : Option ((Sl) × HS) := HS.del S x0 x1 x2 1
theorem snd {base : Nat} {W0 : World} {β0 : Bt} {x0 : Sl} {x1 x2 : Int} {S : HS} {p : (Sl) × HS} (h : f x0 x1 x2 S = some p) : HCall Tryz.prog base W0 β0 123 [(Sl.hv x0),(.int .i64 x1),(.int .i64 x2)] S (fun v S1 => v = (Sl.hv p.1) ∧ S1 = p.2) :=
 del_snd (zr := [(.str [])]) (fun _ _ _ h => slices_Delete_string_string.snd h) h
end slices_Delete_string_string_w
namespace set_Set_string_Remove
theorem at_ : FnAt Tryz.prog 100 Tryz.f100 := ⟨Tryz.func100,by kernel_rfl⟩
def d0 := (Tryz.f100.body).getD .skip
def r1 := kR (kA d0)
def r3 := kR (kA (kB d0))
def r6 := kR (kA (kA (kB (kB d0))))
def r9 := kR (kA (kA (kB (kA (kB (kB d0))))))
def d12 := kB (kB (kB d0))
def r14 := kR (kA (kA d12))
def d16 := kA (kB (kA d12))
def r18 := kR (kA (kA d16))
def d23 := kB (kB (kA d16))
def r26 := kR (kA (kA (kA d23)))
def d27 := kB (kA (kA d23))
def r28 := kR (kA d27)
def r30 := kR (kA (kB d27))
def r33 := kR (kA (kA (kB (kB d27))))
def r34 := kR (kB (kA (kB (kB d27))))
def r36 := kR (kB d23)
def r38 := kR (kA (kB d12))
def c37 : Code := .seq (.region 12 r38 false) .ret
def c36 : Code := .region 11 r36 false
def c17 : Code := .seq (.region 5 r18 false) (.seq (.cond (.tmp 15) .skip (.exit 0)) (.seq (.block 1 (.seq (.region 6 r26 false) (.seq (.region 7 r28 false) (.seq (.region 8 r30 false) (.cond (.tmp 27) (.seq (.region 9 r33 false) (.region 10 r34 false)) .skip))))) c36))
def c0 : Code := .seq (.region 0 r1 false) (.seq (.region 1 r3 false) (.seq (.seq (.region 2 r6 false) (.cond (.tmp 11) (.seq (.region 3 r9 false) .ret) .skip)) (.seq (.seq (.region 4 r14 false) (.block 0 (.loop c17))) c37)))
theorem body : Tryz.f100.body = some c0 := by kernel_rfl
def J1 (k : Nat) (rec0 : HP → Int → Sl → Int → Int → HS → Option ((Int) × HS)) (y0 : HP) (y5 : Int) (y12 : Sl) (y13 : Int) (y14 : Int) (S : HS) : Option ((Int) × HS) :=
 rec0 y0 y5 y12 y13 (w64 (y14 + 1)) S
theorem J1_snd {rec0 : HP → Int → Sl → Int → Int → HS → Option ((Int) × HS)} (hrec0 : ∀ ⦃y0 : HP⦄ ⦃y5 : Int⦄ ⦃y12 : Sl⦄ ⦃y13 : Int⦄ ⦃y14 : Int⦄ ⦃S : HS⦄ ⦃p : (Int) × HS⦄ ⦃Gb Gc Gd Ge Gg Gh Gi Gj Gk Gl Gp Gq Gr Gs Gt Gu Gv Gw Gx Gy Gz Ka Kb Kc Kd Ke Kf Kg Kh Ki Kj Kk Kl Km Kn Ko Kp Kq : HV⦄,rec0 y0 y5 y12 y13 y14 S = some p → HR base W0 β0 100 none [.inLoop c17,.inBlock 0,.code c37] ⟨[(.ptr y0),Gb,Gc,Gd,Ge,(.int .i64 y5),Gg,Gh,Gi,Gj,Gk,Gl,(Sl.hv y12),(.int .i64 y13),(.int .i64 y14),Gp,Gq,Gr,Gs,Gt,Gu,Gv,Gw,Gx,Gy,Gz,Ka,Kb,Kc,Kd,Ke,Kf,Kg,Kh,Ki,Kj,Kk,Kl,Km,Kn,Ko,Kp,Kq],[]⟩ S (fun v S1 => v = (.int .i64 p.1) ∧ S1 = p.2)) {y0 : HP} {y5 : Int} {y12 : Sl} {y13 : Int} {y14 : Int} {S : HS} {p : (Int) × HS} (h : J1 k rec0 y0 y5 y12 y13 y14 S = some p) : HR base W0 β0 100 none [.code c36,.inLoop c17,.inBlock 0,.code c37] ⟨[(.ptr y0),Gb,Gc,Gd,Ge,(.int .i64 y5),Gg,Gh,Gi,Gj,Gk,Gl,(Sl.hv y12),(.int .i64 y13),(.int .i64 y14),Gp,Gq,Gr,Gs,Gt,Gu,Gv,Gw,Gx,Gy,Gz,Ka,Kb,Kc,Kd,Ke,Kf,Kg,Kh,Ki,Kj,Kk,Kl,Km,Kn,Ko,Kp,Kq],[]⟩ S (fun v S1 => v = (.int .i64 p.1) ∧ S1 = p.2) := by
 unfold J1 at h
 refine qR rfl rfl (qS 41 rfl (oC · rfl rfl) (qS 14 rfl (oM · rfl) (rE ?_)))
 try dsimp only [w0,w1,w2,w3]
 exact hrec0 h
def L0 (k : Nat) : Nat → HP → Int → Sl → Int → Int → HS → Option ((Int) × HS)
 | 0,_,_,_,_,_,_ => none
 | n + 1,y0,y5,y12,y13,y14,S =>
  (if y14 < y13 then
  ((S.idx y12 y14 1).bind fun p3 =>
  ((S.ldS p3).bind fun p4 =>
  (y0.bind fun p5 =>
  ((S.ldSl (HA.fld p5 0)).bind fun p6 =>
  ((slices_BinarySearch_string_string.f k p6 p4 S).bind fun p7 =>
  (if p7.1.2 = true then
  (y0.bind fun p9 =>
  ((p7.2.ldSl (HA.fld p9 0)).bind fun p10 =>
  ((slices_Delete_string_string_w.f p10 p7.1.1 (w64 (p7.1.1 + 1)) p7.2).bind fun p11 =>
  (y0.bind fun p12 =>
  ((p11.2.sets (HA.fld p12 0) [(Sl.hv p11.1)]).bind fun p13 =>
  J1 k (L0 k n) y0 (w64 (y5 + 1)) y12 y13 y14 p13))))) else
  J1 k (L0 k n) y0 y5 y12 y13 y14 p7.2)))))) else
  some (y5,S))
theorem L0_snd  : ∀ {n : Nat} ⦃y0 : HP⦄ ⦃y5 : Int⦄ ⦃y12 : Sl⦄ ⦃y13 : Int⦄ ⦃y14 : Int⦄ ⦃S : HS⦄ ⦃p : (Int) × HS⦄ ⦃Gb Gc Gd Ge Gg Gh Gi Gj Gk Gl Gp Gq Gr Gs Gt Gu Gv Gw Gx Gy Gz Ka Kb Kc Kd Ke Kf Kg Kh Ki Kj Kk Kl Km Kn Ko Kp Kq : HV⦄,L0 k n y0 y5 y12 y13 y14 S = some p → HR base W0 β0 100 none [.inLoop c17,.inBlock 0,.code c37] ⟨[(.ptr y0),Gb,Gc,Gd,Ge,(.int .i64 y5),Gg,Gh,Gi,Gj,Gk,Gl,(Sl.hv y12),(.int .i64 y13),(.int .i64 y14),Gp,Gq,Gr,Gs,Gt,Gu,Gv,Gw,Gx,Gy,Gz,Ka,Kb,Kc,Kd,Ke,Kf,Kg,Kh,Ki,Kj,Kk,Kl,Km,Kn,Ko,Kp,Kq],[]⟩ S (fun v S1 => v = (.int .i64 p.1) ∧ S1 = p.2) := by
 intro n
 induction n with
 | zero => intro _ _ _ _ _ _ _ _ _ _ _ _ _ _ _ _ _ _ _ _ _ _ _ _ _ _ _ _ _ _ _ _ _ _ _ _ _ _ _ _ _ _ _ _ _ h; cases h
 | succ n ih =>
  intro y0 y5 y12 y13 y14 S p Gb Gc Gd Ge Gg Gh Gi Gj Gk Gl Gp Gq Gr Gs Gt Gu Gv Gw Gx Gy Gz Ka Kb Kc Kd Ke Kf Kg Kh Ki Kj Kk Kl Km Kn Ko Kp Kq h
  simp only [L0] at h
  refine hr_inLoop (qQ rfl (qR rfl rfl (qS 15 rfl (oB · rfl rfl rfl) (rE ?_))))
  try dsimp only [w0,w1,w2,w3]
  refine qQ rfl ?_
  rcases ifc h with ⟨hc2,h⟩ | ⟨hc2,h⟩
  ·obtain ⟨p3,hp3,h⟩ := bindo h
   obtain ⟨p4,hp4,h⟩ := bindo h
   refine q_cond_t rfl (.tmp rfl) (decide_eq_true hc2) (q_skipc rfl (qQ rfl (q_block rfl (qQ rfl (qR rfl rfl (qS 16 rfl (oX (s := y12) · tu57 sz9 rfl rfl hp3) (qS 17 rfl (oL · sc9 rfl rfl (ldS_out hp4)) (qS 7 rfl (oA · rfl) (rE ?_)))))))))
   try dsimp only [w0,w1,w2,w3]
   obtain ⟨p5,hp5,h⟩ := bindo h
   obtain ⟨p6,hp6,h⟩ := bindo h
   refine qQ rfl (qR rfl rfl (qS 19 rfl (oM · rfl) (qS 20 rfl (oN · rfl hp5) (qS 21 rfl (oF · fi159_0 (by decide) rfl rfl) (qS 22 rfl (oL · sc57 rfl rfl (ldSl_out hp6)) ?_)))))
   try dsimp only [w0,w1,w2,w3]
   obtain ⟨p7,hp7,h⟩ := bindo h
   refine qS 23 rfl (oM · rfl) (q_call (dst := some 24) rfl (.func _) (.cons (.tmp rfl) (.cons (.tmp rfl) Evs.nil)) (HInv.static slices_BinarySearch_string_string.at_ slices_BinarySearch_string_string.body (slices_BinarySearch_string_string.snd  hp7)) ?_)
   rintro _ _ ⟨rfl,rfl⟩
   refine qS 18 rfl (oM · rfl) (qS 25 rfl (ok_extract · (.tmp rfl) rfl) ?_)
   try dsimp only [w0,w1,w2,w3]
   refine qS 26 rfl (ok_extract · (.tmp rfl) rfl) (qS 8 rfl (oA · rfl) (qS 9 rfl (oA · rfl) (rE ?_)))
   try dsimp only [w0,w1,w2,w3]
   refine qQ rfl (qR rfl rfl (qS 27 rfl (oM · rfl) (rE ?_)))
   try dsimp only [w0,w1,w2,w3]
   rcases ifc h with ⟨hc8,h⟩ | ⟨hc8,h⟩
   ·obtain ⟨p9,hp9,h⟩ := bindo h
    refine q_cond_t rfl (.tmp rfl) hc8 (qQ rfl (qR rfl rfl (qS 28 rfl (oM · rfl) (qS 29 rfl (oM · rfl) (qS 30 rfl (oN · rfl hp9) (qS 31 rfl (oF · fi159_0 (by decide) rfl rfl) ?_))))))
    try dsimp only [w0,w1,w2,w3]
    obtain ⟨p10,hp10,h⟩ := bindo h
    refine qS 32 rfl (oL · sc57 rfl rfl (ldSl_out hp10)) (qS 33 rfl (oM · rfl) (qS 34 rfl (oM · rfl) (qS 35 rfl (oC · rfl rfl) ?_)))
    try dsimp only [w0,w1,w2,w3]
    obtain ⟨p11,hp11,h⟩ := bindo h
    refine q_call (dst := some 36) rfl (.func _) (.cons (.tmp rfl) (.cons (.tmp rfl) (.cons (.tmp rfl) Evs.nil))) (HInv.static slices_Delete_string_string_w.at_ slices_Delete_string_string_w.body (slices_Delete_string_string_w.snd  hp11)) ?_
    rintro _ _ ⟨rfl,rfl⟩
    obtain ⟨p12,hp12,h⟩ := bindo h
    obtain ⟨p13,hp13,h⟩ := bindo h
    refine qS 37 rfl (oN · rfl hp12) (qS 38 rfl (oF · fi159_0 (by decide) rfl rfl) (qN rfl (ok_store_s (v := (Sl.hv p11.1)) · sz57 (.tmp rfl) rfl (.tmp rfl) rfl hp13) (rE ?_)))
    try dsimp only [w0,w1,w2,w3]
    refine qR rfl rfl (qS 39 rfl (oM · rfl) (qS 40 rfl (oC · rfl rfl) (qS 5 rfl (oA · rfl) (rE ?_))))
    try dsimp only [w0,w1,w2,w3]
    refine hr_inBlock ?_
    try dsimp only [w0,w1,w2,w3]
    exact J1_snd ih h
   ·refine q_cond_f rfl (.tmp rfl) (bfalse hc8) (q_skipc rfl (hr_inBlock ?_))
    try dsimp only [w0,w1,w2,w3]
    exact J1_snd ih h
  ·refine q_cond_f rfl (.tmp rfl) (decide_eq_false hc2) (q_exit rfl rfl (qQ rfl (qR rfl rfl (qS 42 rfl (oM · rfl) (qS 4 rfl (oA · rfl) (rE ?_))))))
   cases h
   exact q_ret rfl at_.at_ rfl (res1 rfl rfl) ⟨rfl,rfl⟩
def f (k : Nat) (x0 : HP) (x1 : Sl) (S : HS) : Option ((Int) × HS) :=
 (if (Option.isNone x0) = true then
 some (0,S) else
 L0 k k x0 0 x1 (Sl.len x1 : Int) 0 S)
theorem snd {x0 : HP} {x1 : Sl} {S : HS}  {p : (Int) × HS} (h : f k x0 x1 S = some p) : HCall Tryz.prog base W0 β0 100 [(.ptr x0),(Sl.hv x1)] S (fun v S1 => v = (.int .i64 p.1) ∧ S1 = p.2) := by
 unfold f at h
 refine HCall.of_run at_.at_ body ?_
 show HR base W0 β0 100 none [.code c0] ⟨[(.ptr x0),(Sl.hv x1),τ,τ,τ,τ,τ,τ,τ,τ,τ,τ,τ,τ,τ,τ,τ,τ,τ,τ,τ,τ,τ,τ,τ,τ,τ,τ,τ,τ,τ,τ,τ,τ,τ,τ,τ,τ,τ,τ,τ,τ,τ],[]⟩ S _
 refine qQ rfl (qR rfl rfl (qS 4 rfl (ok_assign · (.int _ _)) (rE ?_)))
 try dsimp only [w0,w1,w2,w3]
 refine qQ rfl (qR rfl rfl (qS 5 rfl (ok_assign · (.int _ _)) (rE ?_)))
 try dsimp only [w0,w1,w2,w3]
 refine qQ rfl (qQ rfl (qR rfl rfl (qS 10 rfl (oM · rfl) (qS 11 rfl (ok_nil_ptr · tu134 (.tmp rfl) (.inl ⟨rfl,rfl⟩)) (rE ?_)))))
 try dsimp only [w0,w1,w2,w3]
 rcases ifc h with ⟨hc1,h⟩ | ⟨hc1,h⟩
 ·refine q_cond_t rfl (.tmp rfl) hc1 (qQ rfl (qR rfl rfl (qS 4 rfl (ok_assign · (.int _ _)) (rE ?_))))
  cases h
  exact q_ret rfl at_.at_ rfl (res1 rfl rfl) ⟨rfl,rfl⟩
 ·refine q_cond_f rfl (.tmp rfl) (bfalse hc1) (q_skipc rfl (qQ rfl (qQ rfl (qR rfl rfl (qS 12 rfl (oM · rfl) (qS 13 rfl (ok_len_sl (q := Sl.a x1) (n := Sl.len x1) (z := Sl.cap x1) · rfl tu57 (.tmp rfl)) (qS 14 rfl (ok_move · (.int _ _)) (rE ?_))))))))
  try dsimp only [w0,w1,w2,w3]
  refine q_block rfl (q_loop rfl ?_)
  try dsimp only [w0,w1,w2,w3]
  exact L0_snd  h
end set_Set_string_Remove
namespace pair_take_int_string
theorem at_ : FnAt Tryz.prog 68 Tryz.f68 := ⟨Tryz.func68,by kernel_rfl⟩
def d0 := (Tryz.f68.body).getD .skip
def r1 := kR (kA d0)
def r3 := kR (kA (kB d0))
def r5 := kR (kA (kB (kB d0)))
def c0 : Code := .seq (.region 0 r1 false) (.seq (.region 1 r3 false) (.cond (.tmp 16) (.region 2 r5 false) .skip))
theorem body : Tryz.f68.body = some c0 := by kernel_rfl
def J0 (k : Nat) (S : HS) : Option ((Unit) × HS) :=
 some ((),S)
theorem J0_snd  {S : HS} {p : (Unit) × HS} (h : J0 k S = some p) : HR base W0 β0 68 none [] ⟨[Ga,Gb,Gc,Gd,Ge,Gf,Gg,Gh,Gi,Gj,Gk,Gl,Gm,Gn,Go,Gp,Gq,Gr,Gs],[]⟩ S (fun v S1 => v = (.tup []) ∧ S1 = p.2) := by
 unfold J0 at h
 cases h
 exact q_end at_.at_ rfl (res0 rfl) ⟨rfl,rfl⟩
def f (k : Nat) (x0 : (Option Nat)) (x1 : Int) (x2 : (List UInt8)) (S : HS) : Option ((Unit) × HS) :=
 ((S.look x0 (.int .i64 x1)).bind fun p1 =>
 ((dP (Option.getD p1 (.ptr none))).bind fun p2 =>
 (letv (HS.lit S [[(.str x2)]] 1) fun p3 =>
 ((set_Set_string_Remove.f k p2 (p3.1) (p3.2)).bind fun p4 =>
 ((p4.2.look x0 (.int .i64 x1)).bind fun p5 =>
 ((dP (Option.getD p5 (.ptr none))).bind fun p6 =>
 ((set_Set_string_Len.f p6 p4.2).bind fun p7 =>
 (if p7.1 = 0 then
 ((p7.2.mdel x0 (.int .i64 x1)).bind fun p9 =>
 J0 k p9) else
 J0 k p7.2))))))))
theorem snd {x0 : (Option Nat)} {x1 : Int} {x2 : (List UInt8)} {S : HS}  {p : (Unit) × HS} (h : f k x0 x1 x2 S = some p) : HCall Tryz.prog base W0 β0 68 [(.map x0),(.int .i64 x1),(.str x2)] S (fun v S1 => v = (.tup []) ∧ S1 = p.2) := by
 unfold f at h
 refine HCall.of_run at_.at_ body ?_
 show HR base W0 β0 68 none [.code c0] ⟨[(.map x0),(.int .i64 x1),(.str x2),τ,τ,τ,τ,τ,τ,τ,τ,τ,τ,τ,τ,τ,τ,τ,τ],[]⟩ S _
 obtain ⟨p1,hp1,h⟩ := bindo h
 obtain ⟨p2,hp2,h⟩ := bindo h
 refine qQ rfl (qR rfl rfl (qS 6 rfl (oM · rfl) (qS 7 rfl (oM · rfl) (qS 8 rfl (ok_lookup · tu121 zi134 (fun β => .ptrNil) (keyInt tu3) (.tmp rfl) (.tmp rfl) hp1 (dP_out hp2)) (qS 9 rfl (oM · rfl) ?_)))))
 try dsimp only [w0,w1,w2,w3]
 obtain ⟨p3,hp3,h⟩ := leto h
 obtain ⟨p4,hp4,h⟩ := bindo h
 refine qS 10 rfl (ok_buildSlice_s (xs := [(.tmp 9)]) el57 · rfl rfl (by decide) (.cons (.tmp rfl) Evs.nil) rfl rfl hp3) (q_call (dst := some 11) rfl (.func _) (.cons (.tmp rfl) (.cons (.tmp rfl) Evs.nil)) (HInv.static set_Set_string_Remove.at_ set_Set_string_Remove.body (set_Set_string_Remove.snd  hp4)) ?_)
 rintro _ _ ⟨rfl,rfl⟩
 refine rE ?_
 try dsimp only [w0,w1,w2,w3]
 obtain ⟨p5,hp5,h⟩ := bindo h
 obtain ⟨p6,hp6,h⟩ := bindo h
 obtain ⟨p7,hp7,h⟩ := bindo h
 refine qQ rfl (qR rfl rfl (qS 12 rfl (oM · rfl) (qS 13 rfl (oM · rfl) (qS 14 rfl (ok_lookup · tu121 zi134 (fun β => .ptrNil) (keyInt tu3) (.tmp rfl) (.tmp rfl) hp5 (dP_out hp6)) (q_call (dst := some 15) rfl (.func _) (.cons (.tmp rfl) Evs.nil) (HInv.static set_Set_string_Len.at_ set_Set_string_Len.body (set_Set_string_Len.snd  hp7)) ?_)))))
 rintro _ _ ⟨rfl,rfl⟩
 try dsimp only [w0,w1,w2,w3]
 refine qS 16 rfl (oC · rfl rfl) (rE ?_)
 try dsimp only [w0,w1,w2,w3]
 rcases ifc h with ⟨hc8,h⟩ | ⟨hc8,h⟩
 ·obtain ⟨p9,hp9,h⟩ := bindo h
  refine q_cond_t rfl (.tmp rfl) (decide_eq_true hc8) (qR rfl rfl (qS 17 rfl (oM · rfl) (qS 18 rfl (oM · rfl) (qN rfl (ok_delete · rfl tu121 (keyInt tu3) (.tmp rfl) (.tmp rfl) hp9) (rE ?_)))))
  try dsimp only [w0,w1,w2,w3]
  exact J0_snd  h
 ·refine q_cond_f rfl (.tmp rfl) (decide_eq_false hc8) (q_skipc rfl ?_)
  try dsimp only [w0,w1,w2,w3]
  exact J0_snd  h
end pair_take_int_string
namespace set_Set_int_Len
theorem at_ : FnAt Tryz.prog 101 Tryz.f101 := ⟨Tryz.func101,by kernel_rfl⟩
def d0 := (Tryz.f101.body).getD .skip
def r1 := kR (kA d0)
def r4 := kR (kA (kA (kB d0)))
def r7 := kR (kA (kA (kB (kA (kB d0)))))
def r11 := kR (kA (kB (kB d0)))
def c0 : Code := .seq (.region 0 r1 false) (.seq (.seq (.region 1 r4 false) (.cond (.tmp 4) (.seq (.region 2 r7 false) .ret) .skip)) (.seq (.region 3 r11 false) .ret))
theorem body : Tryz.f101.body = some c0 := by kernel_rfl
def f (x0 : HP) (S : HS) : Option ((Int) × HS) :=
 (if (Option.isNone x0) = true then
 some (0,S) else
 (x0.bind fun p2 =>
 ((S.ldSl (HA.fld p2 0)).bind fun p3 =>
 some ((Sl.len p3 : Int),S))))
theorem snd {x0 : HP} {S : HS}  {p : (Int) × HS} (h : f x0 S = some p) : HCall Tryz.prog base W0 β0 101 [(.ptr x0)] S (fun v S1 => v = (.int .i64 p.1) ∧ S1 = p.2) := by
 unfold f at h
 refine HCall.of_run at_.at_ body ?_
 show HR base W0 β0 101 none [.code c0] ⟨[(.ptr x0),τ,τ,τ,τ,τ,τ,τ,τ,τ],[]⟩ S _
 refine qQ rfl (qR rfl rfl (qS 2 rfl (ok_assign · (.int _ _)) (rE ?_)))
 try dsimp only [w0,w1,w2,w3]
 refine qQ rfl (qQ rfl (qR rfl rfl (qS 3 rfl (oM · rfl) (qS 4 rfl (ok_nil_ptr · tu96 (.tmp rfl) (.inl ⟨rfl,rfl⟩)) (rE ?_)))))
 try dsimp only [w0,w1,w2,w3]
 rcases ifc h with ⟨hc1,h⟩ | ⟨hc1,h⟩
 ·refine q_cond_t rfl (.tmp rfl) hc1 (qQ rfl (qR rfl rfl (qS 2 rfl (ok_assign · (.int _ _)) (rE ?_))))
  cases h
  exact q_ret rfl at_.at_ rfl (res1 rfl rfl) ⟨rfl,rfl⟩
 ·obtain ⟨p2,hp2,h⟩ := bindo h
  obtain ⟨p3,hp3,h⟩ := bindo h
  refine q_cond_f rfl (.tmp rfl) (bfalse hc1) (q_skipc rfl (qQ rfl (qR rfl rfl (qS 5 rfl (oM · rfl) (qS 6 rfl (oN · rfl hp2) (qS 7 rfl (oF · fi138_0 (by decide) rfl rfl) (qS 8 rfl (oL · sc42 rfl rfl (ldSl_out hp3)) ?_)))))))
  try dsimp only [w0,w1,w2,w3]
  refine qS 9 rfl (ok_len_sl (q := Sl.a p3) (n := Sl.len p3) (z := Sl.cap p3) · rfl tu42 (.tmp rfl)) (qS 2 rfl (oA · rfl) (rE ?_))
  cases h
  exact q_ret rfl at_.at_ rfl (res1 rfl rfl) ⟨rfl,rfl⟩
end set_Set_int_Len
namespace pair_take_string_int
theorem at_ : FnAt Tryz.prog 69 Tryz.f69 := ⟨Tryz.func69,by kernel_rfl⟩
def d0 := (Tryz.f69.body).getD .skip
def r1 := kR (kA d0)
def r3 := kR (kA (kB d0))
def r5 := kR (kA (kB (kB d0)))
def c0 : Code := .seq (.region 0 r1 false) (.seq (.region 1 r3 false) (.cond (.tmp 16) (.region 2 r5 false) .skip))
theorem body : Tryz.f69.body = some c0 := by kernel_rfl
def J0 (k : Nat) (S : HS) : Option ((Unit) × HS) :=
 some ((),S)
theorem J0_snd  {S : HS} {p : (Unit) × HS} (h : J0 k S = some p) : HR base W0 β0 69 none [] ⟨[Ga,Gb,Gc,Gd,Ge,Gf,Gg,Gh,Gi,Gj,Gk,Gl,Gm,Gn,Go,Gp,Gq,Gr,Gs],[]⟩ S (fun v S1 => v = (.tup []) ∧ S1 = p.2) := by
 unfold J0 at h
 cases h
 exact q_end at_.at_ rfl (res0 rfl) ⟨rfl,rfl⟩
def f (k : Nat) (x0 : (Option Nat)) (x1 : (List UInt8)) (x2 : Int) (S : HS) : Option ((Unit) × HS) :=
 ((S.look x0 (.str x1)).bind fun p1 =>
 ((dP (Option.getD p1 (.ptr none))).bind fun p2 =>
 (letv (HS.lit S [[(.int .i64 x2)]] 1) fun p3 =>
 ((set_Set_int_Remove.f k p2 (p3.1) (p3.2)).bind fun p4 =>
 ((p4.2.look x0 (.str x1)).bind fun p5 =>
 ((dP (Option.getD p5 (.ptr none))).bind fun p6 =>
 ((set_Set_int_Len.f p6 p4.2).bind fun p7 =>
 (if p7.1 = 0 then
 ((p7.2.mdel x0 (.str x1)).bind fun p9 =>
 J0 k p9) else
 J0 k p7.2))))))))
theorem snd {x0 : (Option Nat)} {x1 : (List UInt8)} {x2 : Int} {S : HS}  {p : (Unit) × HS} (h : f k x0 x1 x2 S = some p) : HCall Tryz.prog base W0 β0 69 [(.map x0),(.str x1),(.int .i64 x2)] S (fun v S1 => v = (.tup []) ∧ S1 = p.2) := by
 unfold f at h
 refine HCall.of_run at_.at_ body ?_
 show HR base W0 β0 69 none [.code c0] ⟨[(.map x0),(.str x1),(.int .i64 x2),τ,τ,τ,τ,τ,τ,τ,τ,τ,τ,τ,τ,τ,τ,τ,τ],[]⟩ S _
 obtain ⟨p1,hp1,h⟩ := bindo h
 obtain ⟨p2,hp2,h⟩ := bindo h
 refine qQ rfl (qR rfl rfl (qS 6 rfl (oM · rfl) (qS 7 rfl (oM · rfl) (qS 8 rfl (ok_lookup · tu122 zi96 (fun β => .ptrNil) (keyStr tu9) (.tmp rfl) (.tmp rfl) hp1 (dP_out hp2)) (qS 9 rfl (oM · rfl) ?_)))))
 try dsimp only [w0,w1,w2,w3]
 obtain ⟨p3,hp3,h⟩ := leto h
 obtain ⟨p4,hp4,h⟩ := bindo h
 refine qS 10 rfl (ok_buildSlice_s (xs := [(.tmp 9)]) el42 · rfl rfl (by decide) (.cons (.tmp rfl) Evs.nil) rfl rfl hp3) (q_call (dst := some 11) rfl (.func _) (.cons (.tmp rfl) (.cons (.tmp rfl) Evs.nil)) (HInv.static set_Set_int_Remove.at_ set_Set_int_Remove.body (set_Set_int_Remove.snd  hp4)) ?_)
 rintro _ _ ⟨rfl,rfl⟩
 refine rE ?_
 try dsimp only [w0,w1,w2,w3]
 obtain ⟨p5,hp5,h⟩ := bindo h
 obtain ⟨p6,hp6,h⟩ := bindo h
 obtain ⟨p7,hp7,h⟩ := bindo h
 refine qQ rfl (qR rfl rfl (qS 12 rfl (oM · rfl) (qS 13 rfl (oM · rfl) (qS 14 rfl (ok_lookup · tu122 zi96 (fun β => .ptrNil) (keyStr tu9) (.tmp rfl) (.tmp rfl) hp5 (dP_out hp6)) (q_call (dst := some 15) rfl (.func _) (.cons (.tmp rfl) Evs.nil) (HInv.static set_Set_int_Len.at_ set_Set_int_Len.body (set_Set_int_Len.snd  hp7)) ?_)))))
 rintro _ _ ⟨rfl,rfl⟩
 try dsimp only [w0,w1,w2,w3]
 refine qS 16 rfl (oC · rfl rfl) (rE ?_)
 try dsimp only [w0,w1,w2,w3]
 rcases ifc h with ⟨hc8,h⟩ | ⟨hc8,h⟩
 ·obtain ⟨p9,hp9,h⟩ := bindo h
  refine q_cond_t rfl (.tmp rfl) (decide_eq_true hc8) (qR rfl rfl (qS 17 rfl (oM · rfl) (qS 18 rfl (oM · rfl) (qN rfl (ok_delete · rfl tu122 (keyStr tu9) (.tmp rfl) (.tmp rfl) hp9) (rE ?_)))))
  try dsimp only [w0,w1,w2,w3]
  exact J0_snd  h
 ·refine q_cond_f rfl (.tmp rfl) (decide_eq_false hc8) (q_skipc rfl ?_)
  try dsimp only [w0,w1,w2,w3]
  exact J0_snd  h
end pair_take_string_int
namespace pair_Rel_int_string_Remove
theorem at_ : FnAt Tryz.prog 38 Tryz.f38 := ⟨Tryz.func38,by kernel_rfl⟩
def d0 := (Tryz.f38.body).getD .skip
def r1 := kR (kA d0)
def r4 := kR (kA (kA (kB d0)))
def r7 := kR (kA (kA (kB (kA (kB d0)))))
def r11 := kR (kA (kB (kB d0)))
def r13 := kR (kA (kB (kB (kB d0))))
def r15 := kR (kA (kB (kB (kB (kB d0)))))
def r17 := kR (kA (kB (kB (kB (kB (kB d0))))))
def c0 : Code := .seq (.region 0 r1 false) (.seq (.seq (.region 1 r4 false) (.cond (.tmp 11) (.seq (.region 2 r7 false) .ret) .skip)) (.seq (.region 3 r11 false) (.seq (.region 4 r13 false) (.seq (.region 5 r15 false) (.seq (.region 6 r17 false) .ret)))))
theorem body : Tryz.f38.body = some c0 := by kernel_rfl
def f (k : Nat) (x0 : HP) (x1 : Int) (x2 : (List UInt8)) (S : HS) : Option ((Bool) × HS) :=
 ((pair_Rel_int_string_Has.f k x0 x1 x2 S).bind fun p1 =>
 (if (!p1.1) = true then
 some (false,p1.2) else
 (x0.bind fun p3 =>
 ((p1.2.ldM (HA.fld p3 2)).bind fun p4 =>
 ((pair_take_int_string.f k p4 x1 x2 p1.2).bind fun p5 =>
 (x0.bind fun p6 =>
 ((p5.2.ldM (HA.fld p6 3)).bind fun p7 =>
 ((pair_take_string_int.f k p7 x2 x1 p5.2).bind fun p8 =>
 (x0.bind fun p9 =>
 ((p8.2.ldI .i64 (HA.fld p9 1)).bind fun p10 =>
 (x0.bind fun p11 =>
 ((p8.2.sets (HA.fld p11 1) [(.int .i64 (w64 (p10 - 1)))]).bind fun p12 =>
 some (true,p12)))))))))))))
theorem snd {x0 : HP} {x1 : Int} {x2 : (List UInt8)} {S : HS}  {p : (Bool) × HS} (h : f k x0 x1 x2 S = some p) : HCall Tryz.prog base W0 β0 38 [(.ptr x0),(.int .i64 x1),(.str x2)] S (fun v S1 => v = (.bool p.1) ∧ S1 = p.2) := by
 unfold f at h
 refine HCall.of_run at_.at_ body ?_
 show HR base W0 β0 38 none [.code c0] ⟨[(.ptr x0),(.int .i64 x1),(.str x2),τ,τ,τ,τ,τ,τ,τ,τ,τ,τ,τ,τ,τ,τ,τ,τ,τ,τ,τ,τ,τ,τ,τ,τ,τ,τ,τ,τ,τ,τ],[]⟩ S _
 refine qQ rfl (qR rfl rfl (qS 6 rfl (ok_assign · (.bool _)) (rE ?_)))
 try dsimp only [w0,w1,w2,w3]
 obtain ⟨p1,hp1,h⟩ := bindo h
 refine qQ rfl (qQ rfl (qR rfl rfl (qS 7 rfl (oM · rfl) (qS 8 rfl (oM · rfl) (qS 9 rfl (oM · rfl) (q_call (dst := some 10) rfl (.func _) (.cons (.tmp rfl) (.cons (.tmp rfl) (.cons (.tmp rfl) Evs.nil))) (HInv.static pair_Rel_int_string_Has.at_ pair_Rel_int_string_Has.body (pair_Rel_int_string_Has.snd  hp1)) ?_))))))
 rintro _ _ ⟨rfl,rfl⟩
 try dsimp only [w0,w1,w2,w3]
 refine qS 11 rfl (ok_not · (.tmp rfl)) (rE ?_)
 try dsimp only [w0,w1,w2,w3]
 rcases ifc h with ⟨hc2,h⟩ | ⟨hc2,h⟩
 ·refine q_cond_t rfl (.tmp rfl) hc2 (qQ rfl (qR rfl rfl (qS 6 rfl (ok_assign · (.bool _)) (rE ?_))))
  cases h
  exact q_ret rfl at_.at_ rfl (res1 rfl rfl) ⟨rfl,rfl⟩
 ·obtain ⟨p3,hp3,h⟩ := bindo h
  obtain ⟨p4,hp4,h⟩ := bindo h
  refine q_cond_f rfl (.tmp rfl) (bfalse hc2) (q_skipc rfl (qQ rfl (qR rfl rfl (qS 12 rfl (oM · rfl) (qS 13 rfl (oN · rfl hp3) (qS 14 rfl (oF · fi124_2 (by decide) rfl rfl) (qS 15 rfl (oL · sc121 rfl rfl (ldM_out hp4)) ?_)))))))
  try dsimp only [w0,w1,w2,w3]
  obtain ⟨p5,hp5,h⟩ := bindo h
  refine qS 16 rfl (oM · rfl) (qS 17 rfl (oM · rfl) (q_call (dst := some 18) rfl (.func _) (.cons (.tmp rfl) (.cons (.tmp rfl) (.cons (.tmp rfl) Evs.nil))) (HInv.static pair_take_int_string.at_ pair_take_int_string.body (pair_take_int_string.snd  hp5)) ?_))
  rintro _ _ ⟨rfl,rfl⟩
  refine rE ?_
  try dsimp only [w0,w1,w2,w3]
  obtain ⟨p6,hp6,h⟩ := bindo h
  obtain ⟨p7,hp7,h⟩ := bindo h
  refine qQ rfl (qR rfl rfl (qS 19 rfl (oM · rfl) (qS 20 rfl (oN · rfl hp6) (qS 21 rfl (oF · fi124_3 (by decide) rfl rfl) (qS 22 rfl (oL · sc122 rfl rfl (ldM_out hp7)) ?_)))))
  try dsimp only [w0,w1,w2,w3]
  obtain ⟨p8,hp8,h⟩ := bindo h
  refine qS 23 rfl (oM · rfl) (qS 24 rfl (oM · rfl) (q_call (dst := some 25) rfl (.func _) (.cons (.tmp rfl) (.cons (.tmp rfl) (.cons (.tmp rfl) Evs.nil))) (HInv.static pair_take_string_int.at_ pair_take_string_int.body (pair_take_string_int.snd  hp8)) ?_))
  rintro _ _ ⟨rfl,rfl⟩
  refine rE ?_
  try dsimp only [w0,w1,w2,w3]
  obtain ⟨p9,hp9,h⟩ := bindo h
  obtain ⟨p10,hp10,h⟩ := bindo h
  refine qQ rfl (qR rfl rfl (qS 26 rfl (oM · rfl) (qS 27 rfl (oN · rfl hp9) (qS 28 rfl (oF · fi124_1 (by decide) rfl rfl) (qS 29 rfl (oL · sc3 rfl rfl (ldI_out hp10)) ?_)))))
  try dsimp only [w0,w1,w2,w3]
  obtain ⟨p11,hp11,h⟩ := bindo h
  obtain ⟨p12,hp12,h⟩ := bindo h
  refine qS 30 rfl (oC · rfl rfl) (qS 31 rfl (oN · rfl hp11) (qS 32 rfl (oF · fi124_1 (by decide) rfl rfl) (qN rfl (ok_store_s (v := (.int .i64 (w64 (p10 - 1)))) · sz3 (.tmp rfl) rfl (.tmp rfl) rfl hp12) (rE ?_))))
  try dsimp only [w0,w1,w2,w3]
  refine qQ rfl (qR rfl rfl (qS 6 rfl (ok_assign · (.bool _)) (rE ?_)))
  cases h
  exact q_ret rfl at_.at_ rfl (res1 rfl rfl) ⟨rfl,rfl⟩
end pair_Rel_int_string_Remove
namespace slices_Delete_api_Member_api_Member
theorem at_ : FnAt Tryz.prog 71 Tryz.f71 := ⟨Tryz.func71,by kernel_rfl⟩
def d0 := (Tryz.f71.body).getD .skip
def r1 := kR (kA d0)
def r3 := kR (kA (kB d0))
def r6 := kR (kA (kA (kB (kB d0))))
def r9 := kR (kA (kA (kB (kA (kB (kB d0))))))
def d12 := kB (kB (kB d0))
def r13 := kR (kA d12)
def r15 := kR (kA (kB d12))
def r17 := kR (kA (kB (kB d12)))
def r19 := kR (kA (kB (kB (kB d12))))
def c0 : Code := .seq (.region 0 r1 false) (.seq (.region 1 r3 false) (.seq (.seq (.region 2 r6 false) (.cond (.tmp 16) (.seq (.region 3 r9 false) .ret) .skip)) (.seq (.region 4 r13 false) (.seq (.region 5 r15 true) (.seq (.region 6 r17 false) (.seq (.region 7 r19 false) .ret))))))
theorem body : Tryz.f71.body = some c0 := by kernel_rfl
def f (x0 : Sl) (x1 : Int) (x2 : Int) (S : HS) : Option ((Sl) × HS) :=
 ((S.cut3 x0 x1 x2 (Sl.len x0 : Int) 3).bind fun p1 =>
 (if x1 = x2 then
 some (x0,S) else
 ((S.cut x0 0 x1 3).bind fun p3 =>
 ((S.cut x0 x2 (Sl.len x0 : Int) 3).bind fun p4 =>
 ((S.rows p4 3).bind fun p5 =>
 ((S.app p3 p5 3).bind fun p6 =>
 ((p6.2.cut (p6.1) (Sl.len (p6.1) : Int) (Sl.len x0 : Int) 3).bind fun p7 =>
 ((p6.2.over p7 (List.replicate (Sl.len p7) [(.int .i64 0),(.bool false),(.bool false)]) 3).bind fun p8 =>
 some ((p6.1),p8)))))))))
theorem snd {x0 : Sl} {x1 : Int} {x2 : Int} {S : HS}  {p : (Sl) × HS} (h : f x0 x1 x2 S = some p) : HCall Tryz.prog base W0 β0 71 [(Sl.hv x0),(.int .i64 x1),(.int .i64 x2)] S (fun v S1 => v = (Sl.hv p.1) ∧ S1 = p.2) := by
 unfold f at h
 refine HCall.of_run at_.at_ body ?_
 show HR base W0 β0 71 none [.code c0] ⟨[(Sl.hv x0),(.int .i64 x1),(.int .i64 x2),τ,τ,τ,τ,τ,τ,τ,τ,τ,τ,τ,τ,τ,τ,τ,τ,τ,τ,τ,τ,τ,τ,τ,τ,τ,τ,τ,τ,τ,τ],[]⟩ S _
 refine qQ rfl (qR rfl rfl (qS 6 rfl (ok_assign · (.const fun _ => .slNil none)) (rE ?_)))
 try dsimp only [w0,w1,w2,w3]
 refine qQ rfl (qR rfl rfl (qS 8 rfl (oM · rfl) (qS 9 rfl (oM · rfl) (qS 10 rfl (oM · rfl) (qS 11 rfl (oM · rfl) ?_)))))
 try dsimp only [w0,w1,w2,w3]
 obtain ⟨p1,hp1,h⟩ := bindo h
 refine qS 12 rfl (ok_len_sl (q := Sl.a x0) (n := Sl.len x0) (z := Sl.cap x0) · rfl tu87 (.tmp rfl)) (qS 13 rfl (ok_slice3 (kl := .i64) (kh := .i64) (s := x0) (l := x1) (h := x2) · tu87 si62 (.tmp rfl) (.inr ⟨_,rfl,(.tmp rfl)⟩) (.inr ⟨_,rfl,(.tmp rfl)⟩) (.tmp rfl) hp1) (rE ?_))
 try dsimp only [w0,w1,w2,w3]
 refine qQ rfl (qQ rfl (qR rfl rfl (qS 14 rfl (oM · rfl) (qS 15 rfl (oM · rfl) (qS 16 rfl (oB · rfl rfl rfl) (rE ?_))))))
 try dsimp only [w0,w1,w2,w3]
 rcases ifc h with ⟨hc2,h⟩ | ⟨hc2,h⟩
 ·refine q_cond_t rfl (.tmp rfl) (decide_eq_true hc2) (qQ rfl (qR rfl rfl (qS 17 rfl (oM · rfl) (qS 6 rfl (oA · rfl) (rE ?_)))))
  cases h
  exact q_ret rfl at_.at_ rfl (res1 rfl rfl) ⟨rfl,rfl⟩
 ·refine q_cond_f rfl (.tmp rfl) (decide_eq_false hc2) (q_skipc rfl (qQ rfl (qR rfl rfl (qS 18 rfl (oM · rfl) (qS 19 rfl (ok_len_sl (q := Sl.a x0) (n := Sl.len x0) (z := Sl.cap x0) · rfl tu87 (.tmp rfl)) (qS 7 rfl (oA · rfl) (rE ?_)))))))
  try dsimp only [w0,w1,w2,w3]
  refine qQ rfl ?_
  refine x_start (cls := [0,0,1,0,0,1,2,0]) (rk := [0,1,2,3,4,5,6,7]) rfl (by kernel_rfl) ?_
  refine yf 20 [0] rfl (oM · rfl) ?_
  refine yf 21 [1] rfl (oM · rfl) ?_
  obtain ⟨p3,hp3,h⟩ := bindo h
  refine yr 22 [20,21] rfl (ok_slice (kl := .i64) (kh := .i64) (s := x0) (l := 0) (h := x1) · tu87 si62 (.tmp rfl) (.inl ⟨rfl,rfl⟩) (.inr ⟨_,rfl,(.tmp rfl)⟩) hp3) ?_
  refine yf 23 [0] rfl (oM · rfl) ?_
  try dsimp only [w0,w1,w2,w3]
  refine yf 24 [2] rfl (oM · rfl) ?_
  obtain ⟨p4,hp4,h⟩ := bindo h
  refine yr 25 [23,24] rfl (ok_slice (kl := .i64) (kh := .i64) (s := x0) (l := x2) (h := (Sl.len x0 : Int)) · tu87 si62 (.tmp rfl) (.inr ⟨_,rfl,(.tmp rfl)⟩) (.inl ⟨rfl,rfl⟩) hp4) ?_
  obtain ⟨p5,hp5,h⟩ := bindo h
  obtain ⟨p6,hp6,h⟩ := bindo h
  refine ye 26 [22,25] rfl (ok_append (s := p3) (s1 := p4) el87 · rfl rfl ⟨_,tu87⟩ (.tmp rfl) (.tmp rfl) hp5 hp6) ?_
  refine yf 0 [26] rfl (oA · rfl) ?_
  refine x_rest rfl ?_
  refine rE ?_
  try dsimp only [w0,w1,w2,w3]
  refine qQ rfl (qR rfl rfl (qS 27 rfl (oM · rfl) (qS 28 rfl (oM · rfl) (qS 29 rfl (ok_len_sl (q := Sl.a (p6.1)) (n := Sl.len (p6.1)) (z := Sl.cap (p6.1)) · rfl tu87 (.tmp rfl)) (qS 30 rfl (oM · rfl) ?_)))))
  try dsimp only [w0,w1,w2,w3]
  obtain ⟨p7,hp7,h⟩ := bindo h
  obtain ⟨p8,hp8,h⟩ := bindo h
  refine qS 31 rfl (ok_slice (kl := .i64) (kh := .i64) (s := (p6.1)) (l := (Sl.len (p6.1) : Int)) (h := (Sl.len x0 : Int)) · tu87 si62 (.tmp rfl) (.inr ⟨_,rfl,(.tmp rfl)⟩) (.inr ⟨_,rfl,(.tmp rfl)⟩) hp7) (qN rfl (ok_clear (s := p7) el87 · rfl (.tmp rfl) hp8) (rE ?_))
  try dsimp only [w0,w1,w2,w3]
  refine qQ rfl (qR rfl rfl (qS 32 rfl (oM · rfl) (qS 6 rfl (oA · rfl) (rE ?_))))
  cases h
  exact q_ret rfl at_.at_ rfl (res1 rfl rfl) ⟨rfl,rfl⟩
end slices_Delete_api_Member_api_Member
namespace slices_Delete_api_Member_api_Member_w
theorem at_ : FnAt Tryz.prog 71 Tryz.f71 := slices_Delete_api_Member_api_Member.at_
theorem body : Tryz.f71.body = some slices_Delete_api_Member_api_Member.c0 := slices_Delete_api_Member_api_Member.body
def f (x0 : Sl) (x1 : Int) (x2 : Int) (S : HS) : Option ((Sl) × HS) := HS.del S x0 x1 x2 3
theorem snd {base : Nat} {W0 : World} {β0 : Bt} {x0 : Sl} {x1 x2 : Int} {S : HS} {p : (Sl) × HS} (h : f x0 x1 x2 S = some p) : HCall Tryz.prog base W0 β0 71 [(Sl.hv x0),(.int .i64 x1),(.int .i64 x2)] S (fun v S1 => v = (Sl.hv p.1) ∧ S1 = p.2) :=
 del_snd (zr := [(.int .i64 0),(.bool false),(.bool false)]) (fun _ _ _ h => slices_Delete_api_Member_api_Member.snd h) h
end slices_Delete_api_Member_api_Member_w
namespace room_Room_Drop
theorem at_ : FnAt Tryz.prog 40 Tryz.f40 := ⟨Tryz.func40,by kernel_rfl⟩
def d0 := (Tryz.f40.body).getD .skip
def r1 := kR (kA d0)
def r3 := kR (kA (kB d0))
def r6 := kR (kA (kA (kB (kB d0))))
def r8 := kR (kA (kB (kA (kB (kB d0)))))
def r11 := kR (kA (kB (kB (kB d0))))
def c10 : Code := .seq (.region 4 r11 false) .ret
def c0 : Code := .seq (.region 0 r1 false) (.seq (.region 1 r3 false) (.seq (.seq (.region 2 r6 false) (.cond (.tmp 13) (.region 3 r8 false) .skip)) c10))
theorem body : Tryz.f40.body = some c0 := by kernel_rfl
def J0 (D : Dp) (H : Hd) (k : Nat) (y6 : Bool) (S : HS) : Option ((Bool) × HS) :=
 some (y6,S)
theorem J0_snd (hD : DS base W0 D) (hH : HT base W0 β0 H)  {y6 : Bool} {S : HS} {p : (Bool) × HS} (h : J0 D H k y6 S = some p) : HR base W0 β0 40 none [.code c10] ⟨[Ga,Gb,Gc,Gd,Ge,Gf,(.bool y6),Gh,Gi,Gj,Gk,Gl,Gm,Gn,Go,Gp,Gq,Gr,Gs,Gt,Gu,Gv,Gw,Gx,Gy,Gz],[]⟩ S (fun v S1 => v = (.bool p.1) ∧ S1 = p.2) := by
 unfold J0 at h
 refine qQ rfl (qR rfl rfl (qS 25 rfl (oM · rfl) (qS 4 rfl (oA · rfl) (rE ?_))))
 cases h
 exact q_ret rfl at_.at_ rfl (res1 rfl rfl) ⟨rfl,rfl⟩
def f (D : Dp) (H : Hd) (k : Nat) (x0 : HP) (x1 : Int) (S : HS) : Option ((Bool) × HS) :=
 ((room_Room_at.f D H k x0 x1 S).bind fun p1 =>
 (if p1.1.2 = true then
 (x0.bind fun p3 =>
 ((p1.2.ldSl (HA.fld p3 2)).bind fun p4 =>
 ((slices_Delete_api_Member_api_Member_w.f p4 p1.1.1 (w64 (p1.1.1 + 1)) p1.2).bind fun p5 =>
 (x0.bind fun p6 =>
 ((p5.2.sets (HA.fld p6 2) [(Sl.hv p5.1)]).bind fun p7 =>
 J0 D H k p1.1.2 p7))))) else
 J0 D H k p1.1.2 p1.2))
theorem snd {x0 : HP} {x1 : Int} {S : HS} (hD : DS base W0 D) (hH : HT base W0 β0 H)  {p : (Bool) × HS} (h : f D H k x0 x1 S = some p) : HCall Tryz.prog base W0 β0 40 [(.ptr x0),(.int .i64 x1)] S (fun v S1 => v = (.bool p.1) ∧ S1 = p.2) := by
 unfold f at h
 refine HCall.of_run at_.at_ body ?_
 show HR base W0 β0 40 none [.code c0] ⟨[(.ptr x0),(.int .i64 x1),τ,τ,τ,τ,τ,τ,τ,τ,τ,τ,τ,τ,τ,τ,τ,τ,τ,τ,τ,τ,τ,τ,τ,τ],[]⟩ S _
 refine qQ rfl (qR rfl rfl (qS 4 rfl (ok_assign · (.bool _)) (rE ?_)))
 try dsimp only [w0,w1,w2,w3]
 obtain ⟨p1,hp1,h⟩ := bindo h
 refine qQ rfl (qR rfl rfl (qS 8 rfl (oM · rfl) (qS 9 rfl (oM · rfl) (q_call (dst := some 10) rfl (.func _) (.cons (.tmp rfl) (.cons (.tmp rfl) Evs.nil)) (HInv.static room_Room_at.at_ room_Room_at.body (room_Room_at.snd hD hH hp1)) ?_))))
 rintro _ _ ⟨rfl,rfl⟩
 refine qS 7 rfl (oM · rfl) ?_
 try dsimp only [w0,w1,w2,w3]
 refine qS 11 rfl (ok_extract · (.tmp rfl) rfl) (qS 12 rfl (ok_extract · (.tmp rfl) rfl) (qS 5 rfl (oA · rfl) (qS 6 rfl (oA · rfl) (rE ?_))))
 try dsimp only [w0,w1,w2,w3]
 refine qQ rfl (qQ rfl (qR rfl rfl (qS 13 rfl (oM · rfl) (rE ?_))))
 try dsimp only [w0,w1,w2,w3]
 rcases ifc h with ⟨hc2,h⟩ | ⟨hc2,h⟩
 ·obtain ⟨p3,hp3,h⟩ := bindo h
  refine q_cond_t rfl (.tmp rfl) hc2 (qR rfl rfl (qS 14 rfl (oM · rfl) (qS 15 rfl (oM · rfl) (qS 16 rfl (oN · rfl hp3) (qS 17 rfl (oF · fi114_2 (by decide) rfl rfl) ?_)))))
  try dsimp only [w0,w1,w2,w3]
  obtain ⟨p4,hp4,h⟩ := bindo h
  refine qS 18 rfl (oL · sc87 rfl rfl (ldSl_out hp4)) (qS 19 rfl (oM · rfl) (qS 20 rfl (oM · rfl) (qS 21 rfl (oC · rfl rfl) ?_)))
  try dsimp only [w0,w1,w2,w3]
  obtain ⟨p5,hp5,h⟩ := bindo h
  refine q_call (dst := some 22) rfl (.func _) (.cons (.tmp rfl) (.cons (.tmp rfl) (.cons (.tmp rfl) Evs.nil))) (HInv.static slices_Delete_api_Member_api_Member_w.at_ slices_Delete_api_Member_api_Member_w.body (slices_Delete_api_Member_api_Member_w.snd  hp5)) ?_
  rintro _ _ ⟨rfl,rfl⟩
  obtain ⟨p6,hp6,h⟩ := bindo h
  obtain ⟨p7,hp7,h⟩ := bindo h
  refine qS 23 rfl (oN · rfl hp6) (qS 24 rfl (oF · fi114_2 (by decide) rfl rfl) (qN rfl (ok_store_s (v := (Sl.hv p5.1)) · sz87 (.tmp rfl) rfl (.tmp rfl) rfl hp7) (rE ?_)))
  try dsimp only [w0,w1,w2,w3]
  exact J0_snd hD hH h
 ·refine q_cond_f rfl (.tmp rfl) (bfalse hc2) (q_skipc rfl ?_)
  try dsimp only [w0,w1,w2,w3]
  exact J0_snd hD hH h
end room_Room_Drop
namespace room_Room_Len
theorem at_ : FnAt Tryz.prog 23 Tryz.f23 := ⟨Tryz.func23,by kernel_rfl⟩
def d0 := (Tryz.f23.body).getD .skip
def r1 := kR (kA d0)
def r4 := kR (kA (kA (kB d0)))
def r7 := kR (kA (kA (kB (kA (kB d0)))))
def r11 := kR (kA (kB (kB d0)))
def c0 : Code := .seq (.region 0 r1 false) (.seq (.seq (.region 1 r4 false) (.cond (.tmp 4) (.seq (.region 2 r7 false) .ret) .skip)) (.seq (.region 3 r11 false) .ret))
theorem body : Tryz.f23.body = some c0 := by kernel_rfl
def f (x0 : HP) (S : HS) : Option ((Int) × HS) :=
 (if (Option.isNone x0) = true then
 some (0,S) else
 (x0.bind fun p2 =>
 ((S.ldSl (HA.fld p2 2)).bind fun p3 =>
 some ((Sl.len p3 : Int),S))))
theorem snd {x0 : HP} {S : HS}  {p : (Int) × HS} (h : f x0 S = some p) : HCall Tryz.prog base W0 β0 23 [(.ptr x0)] S (fun v S1 => v = (.int .i64 p.1) ∧ S1 = p.2) := by
 unfold f at h
 refine HCall.of_run at_.at_ body ?_
 show HR base W0 β0 23 none [.code c0] ⟨[(.ptr x0),τ,τ,τ,τ,τ,τ,τ,τ,τ],[]⟩ S _
 refine qQ rfl (qR rfl rfl (qS 2 rfl (ok_assign · (.int _ _)) (rE ?_)))
 try dsimp only [w0,w1,w2,w3]
 refine qQ rfl (qQ rfl (qR rfl rfl (qS 3 rfl (oM · rfl) (qS 4 rfl (ok_nil_ptr · tu36 (.tmp rfl) (.inl ⟨rfl,rfl⟩)) (rE ?_)))))
 try dsimp only [w0,w1,w2,w3]
 rcases ifc h with ⟨hc1,h⟩ | ⟨hc1,h⟩
 ·refine q_cond_t rfl (.tmp rfl) hc1 (qQ rfl (qR rfl rfl (qS 2 rfl (ok_assign · (.int _ _)) (rE ?_))))
  cases h
  exact q_ret rfl at_.at_ rfl (res1 rfl rfl) ⟨rfl,rfl⟩
 ·obtain ⟨p2,hp2,h⟩ := bindo h
  obtain ⟨p3,hp3,h⟩ := bindo h
  refine q_cond_f rfl (.tmp rfl) (bfalse hc1) (q_skipc rfl (qQ rfl (qR rfl rfl (qS 5 rfl (oM · rfl) (qS 6 rfl (oN · rfl hp2) (qS 7 rfl (oF · fi114_2 (by decide) rfl rfl) (qS 8 rfl (oL · sc87 rfl rfl (ldSl_out hp3)) ?_)))))))
  try dsimp only [w0,w1,w2,w3]
  refine qS 9 rfl (ok_len_sl (q := Sl.a p3) (n := Sl.len p3) (z := Sl.cap p3) · rfl tu87 (.tmp rfl)) (qS 2 rfl (oA · rfl) (rE ?_))
  cases h
  exact q_ret rfl at_.at_ rfl (res1 rfl rfl) ⟨rfl,rfl⟩
end room_Room_Len
namespace slices_Delete_book_entry_room_Room_book_entry_room_Room
theorem at_ : FnAt Tryz.prog 73 Tryz.f73 := ⟨Tryz.func73,by kernel_rfl⟩
def d0 := (Tryz.f73.body).getD .skip
def r1 := kR (kA d0)
def r3 := kR (kA (kB d0))
def r6 := kR (kA (kA (kB (kB d0))))
def r9 := kR (kA (kA (kB (kA (kB (kB d0))))))
def d12 := kB (kB (kB d0))
def r13 := kR (kA d12)
def r15 := kR (kA (kB d12))
def r17 := kR (kA (kB (kB d12)))
def r19 := kR (kA (kB (kB (kB d12))))
def c0 : Code := .seq (.region 0 r1 false) (.seq (.region 1 r3 false) (.seq (.seq (.region 2 r6 false) (.cond (.tmp 16) (.seq (.region 3 r9 false) .ret) .skip)) (.seq (.region 4 r13 false) (.seq (.region 5 r15 true) (.seq (.region 6 r17 false) (.seq (.region 7 r19 false) .ret))))))
theorem body : Tryz.f73.body = some c0 := by kernel_rfl
def f (x0 : Sl) (x1 : Int) (x2 : Int) (S : HS) : Option ((Sl) × HS) :=
 ((S.cut3 x0 x1 x2 (Sl.len x0 : Int) 2).bind fun p1 =>
 (if x1 = x2 then
 some (x0,S) else
 ((S.cut x0 0 x1 2).bind fun p3 =>
 ((S.cut x0 x2 (Sl.len x0 : Int) 2).bind fun p4 =>
 ((S.rows p4 2).bind fun p5 =>
 ((S.app p3 p5 2).bind fun p6 =>
 ((p6.2.cut (p6.1) (Sl.len (p6.1) : Int) (Sl.len x0 : Int) 2).bind fun p7 =>
 ((p6.2.over p7 (List.replicate (Sl.len p7) [(.str []),(.ptr none)]) 2).bind fun p8 =>
 some ((p6.1),p8)))))))))
theorem snd {x0 : Sl} {x1 : Int} {x2 : Int} {S : HS}  {p : (Sl) × HS} (h : f x0 x1 x2 S = some p) : HCall Tryz.prog base W0 β0 73 [(Sl.hv x0),(.int .i64 x1),(.int .i64 x2)] S (fun v S1 => v = (Sl.hv p.1) ∧ S1 = p.2) := by
 unfold f at h
 refine HCall.of_run at_.at_ body ?_
 show HR base W0 β0 73 none [.code c0] ⟨[(Sl.hv x0),(.int .i64 x1),(.int .i64 x2),τ,τ,τ,τ,τ,τ,τ,τ,τ,τ,τ,τ,τ,τ,τ,τ,τ,τ,τ,τ,τ,τ,τ,τ,τ,τ,τ,τ,τ,τ],[]⟩ S _
 refine qQ rfl (qR rfl rfl (qS 6 rfl (ok_assign · (.const fun _ => .slNil none)) (rE ?_)))
 try dsimp only [w0,w1,w2,w3]
 refine qQ rfl (qR rfl rfl (qS 8 rfl (oM · rfl) (qS 9 rfl (oM · rfl) (qS 10 rfl (oM · rfl) (qS 11 rfl (oM · rfl) ?_)))))
 try dsimp only [w0,w1,w2,w3]
 obtain ⟨p1,hp1,h⟩ := bindo h
 refine qS 12 rfl (ok_len_sl (q := Sl.a x0) (n := Sl.len x0) (z := Sl.cap x0) · rfl tu118 (.tmp rfl)) (qS 13 rfl (ok_slice3 (kl := .i64) (kh := .i64) (s := x0) (l := x1) (h := x2) · tu118 si133 (.tmp rfl) (.inr ⟨_,rfl,(.tmp rfl)⟩) (.inr ⟨_,rfl,(.tmp rfl)⟩) (.tmp rfl) hp1) (rE ?_))
 try dsimp only [w0,w1,w2,w3]
 refine qQ rfl (qQ rfl (qR rfl rfl (qS 14 rfl (oM · rfl) (qS 15 rfl (oM · rfl) (qS 16 rfl (oB · rfl rfl rfl) (rE ?_))))))
 try dsimp only [w0,w1,w2,w3]
 rcases ifc h with ⟨hc2,h⟩ | ⟨hc2,h⟩
 ·refine q_cond_t rfl (.tmp rfl) (decide_eq_true hc2) (qQ rfl (qR rfl rfl (qS 17 rfl (oM · rfl) (qS 6 rfl (oA · rfl) (rE ?_)))))
  cases h
  exact q_ret rfl at_.at_ rfl (res1 rfl rfl) ⟨rfl,rfl⟩
 ·refine q_cond_f rfl (.tmp rfl) (decide_eq_false hc2) (q_skipc rfl (qQ rfl (qR rfl rfl (qS 18 rfl (oM · rfl) (qS 19 rfl (ok_len_sl (q := Sl.a x0) (n := Sl.len x0) (z := Sl.cap x0) · rfl tu118 (.tmp rfl)) (qS 7 rfl (oA · rfl) (rE ?_)))))))
  try dsimp only [w0,w1,w2,w3]
  refine qQ rfl ?_
  refine x_start (cls := [0,0,1,0,0,1,2,0]) (rk := [0,1,2,3,4,5,6,7]) rfl (by kernel_rfl) ?_
  refine yf 20 [0] rfl (oM · rfl) ?_
  refine yf 21 [1] rfl (oM · rfl) ?_
  obtain ⟨p3,hp3,h⟩ := bindo h
  refine yr 22 [20,21] rfl (ok_slice (kl := .i64) (kh := .i64) (s := x0) (l := 0) (h := x1) · tu118 si133 (.tmp rfl) (.inl ⟨rfl,rfl⟩) (.inr ⟨_,rfl,(.tmp rfl)⟩) hp3) ?_
  refine yf 23 [0] rfl (oM · rfl) ?_
  try dsimp only [w0,w1,w2,w3]
  refine yf 24 [2] rfl (oM · rfl) ?_
  obtain ⟨p4,hp4,h⟩ := bindo h
  refine yr 25 [23,24] rfl (ok_slice (kl := .i64) (kh := .i64) (s := x0) (l := x2) (h := (Sl.len x0 : Int)) · tu118 si133 (.tmp rfl) (.inr ⟨_,rfl,(.tmp rfl)⟩) (.inl ⟨rfl,rfl⟩) hp4) ?_
  obtain ⟨p5,hp5,h⟩ := bindo h
  obtain ⟨p6,hp6,h⟩ := bindo h
  refine ye 26 [22,25] rfl (ok_append (s := p3) (s1 := p4) el118 · rfl rfl ⟨_,tu118⟩ (.tmp rfl) (.tmp rfl) hp5 hp6) ?_
  refine yf 0 [26] rfl (oA · rfl) ?_
  refine x_rest rfl ?_
  refine rE ?_
  try dsimp only [w0,w1,w2,w3]
  refine qQ rfl (qR rfl rfl (qS 27 rfl (oM · rfl) (qS 28 rfl (oM · rfl) (qS 29 rfl (ok_len_sl (q := Sl.a (p6.1)) (n := Sl.len (p6.1)) (z := Sl.cap (p6.1)) · rfl tu118 (.tmp rfl)) (qS 30 rfl (oM · rfl) ?_)))))
  try dsimp only [w0,w1,w2,w3]
  obtain ⟨p7,hp7,h⟩ := bindo h
  obtain ⟨p8,hp8,h⟩ := bindo h
  refine qS 31 rfl (ok_slice (kl := .i64) (kh := .i64) (s := (p6.1)) (l := (Sl.len (p6.1) : Int)) (h := (Sl.len x0 : Int)) · tu118 si133 (.tmp rfl) (.inr ⟨_,rfl,(.tmp rfl)⟩) (.inr ⟨_,rfl,(.tmp rfl)⟩) hp7) (qN rfl (ok_clear (s := p7) el118 · rfl (.tmp rfl) hp8) (rE ?_))
  try dsimp only [w0,w1,w2,w3]
  refine qQ rfl (qR rfl rfl (qS 32 rfl (oM · rfl) (qS 6 rfl (oA · rfl) (rE ?_))))
  cases h
  exact q_ret rfl at_.at_ rfl (res1 rfl rfl) ⟨rfl,rfl⟩
end slices_Delete_book_entry_room_Room_book_entry_room_Room
namespace slices_Delete_book_entry_room_Room_book_entry_room_Room_w
theorem at_ : FnAt Tryz.prog 73 Tryz.f73 := slices_Delete_book_entry_room_Room_book_entry_room_Room.at_
theorem body : Tryz.f73.body = some slices_Delete_book_entry_room_Room_book_entry_room_Room.c0 := slices_Delete_book_entry_room_Room_book_entry_room_Room.body
def f (x0 : Sl) (x1 : Int) (x2 : Int) (S : HS) : Option ((Sl) × HS) := HS.del S x0 x1 x2 2
theorem snd {base : Nat} {W0 : World} {β0 : Bt} {x0 : Sl} {x1 x2 : Int} {S : HS} {p : (Sl) × HS} (h : f x0 x1 x2 S = some p) : HCall Tryz.prog base W0 β0 73 [(Sl.hv x0),(.int .i64 x1),(.int .i64 x2)] S (fun v S1 => v = (Sl.hv p.1) ∧ S1 = p.2) :=
 del_snd (zr := [(.str []),(.ptr none)]) (fun _ _ _ h => slices_Delete_book_entry_room_Room_book_entry_room_Room.snd h) h
end slices_Delete_book_entry_room_Room_book_entry_room_Room_w
namespace book_Book_room_Room_Delete
theorem at_ : FnAt Tryz.prog 41 Tryz.f41 := ⟨Tryz.func41,by kernel_rfl⟩
def d0 := (Tryz.f41.body).getD .skip
def r1 := kR (kA d0)
def r3 := kR (kA (kB d0))
def r6 := kR (kA (kA (kB (kB d0))))
def r8 := kR (kA (kB (kA (kB (kB d0)))))
def r11 := kR (kA (kB (kB (kB d0))))
def c10 : Code := .seq (.region 4 r11 false) .ret
def c0 : Code := .seq (.region 0 r1 false) (.seq (.region 1 r3 false) (.seq (.seq (.region 2 r6 false) (.cond (.tmp 13) (.region 3 r8 false) .skip)) c10))
theorem body : Tryz.f41.body = some c0 := by kernel_rfl
def J0 (D : Dp) (H : Hd) (k : Nat) (y6 : Bool) (S : HS) : Option ((Bool) × HS) :=
 some (y6,S)
theorem J0_snd (hD : DS base W0 D) (hH : HT base W0 β0 H)  {y6 : Bool} {S : HS} {p : (Bool) × HS} (h : J0 D H k y6 S = some p) : HR base W0 β0 41 none [.code c10] ⟨[Ga,Gb,Gc,Gd,Ge,Gf,(.bool y6),Gh,Gi,Gj,Gk,Gl,Gm,Gn,Go,Gp,Gq,Gr,Gs,Gt,Gu,Gv,Gw,Gx,Gy,Gz],[]⟩ S (fun v S1 => v = (.bool p.1) ∧ S1 = p.2) := by
 unfold J0 at h
 refine qQ rfl (qR rfl rfl (qS 25 rfl (oM · rfl) (qS 4 rfl (oA · rfl) (rE ?_))))
 cases h
 exact q_ret rfl at_.at_ rfl (res1 rfl rfl) ⟨rfl,rfl⟩
def f (D : Dp) (H : Hd) (k : Nat) (x0 : HP) (x1 : (List UInt8)) (S : HS) : Option ((Bool) × HS) :=
 ((book_Book_room_Room_at.f D H k x0 x1 S).bind fun p1 =>
 (if p1.1.2 = true then
 (x0.bind fun p3 =>
 ((p1.2.ldSl (HA.fld p3 1)).bind fun p4 =>
 ((slices_Delete_book_entry_room_Room_book_entry_room_Room_w.f p4 p1.1.1 (w64 (p1.1.1 + 1)) p1.2).bind fun p5 =>
 (x0.bind fun p6 =>
 ((p5.2.sets (HA.fld p6 1) [(Sl.hv p5.1)]).bind fun p7 =>
 J0 D H k p1.1.2 p7))))) else
 J0 D H k p1.1.2 p1.2))
theorem snd {x0 : HP} {x1 : (List UInt8)} {S : HS} (hD : DS base W0 D) (hH : HT base W0 β0 H)  {p : (Bool) × HS} (h : f D H k x0 x1 S = some p) : HCall Tryz.prog base W0 β0 41 [(.ptr x0),(.str x1)] S (fun v S1 => v = (.bool p.1) ∧ S1 = p.2) := by
 unfold f at h
 refine HCall.of_run at_.at_ body ?_
 show HR base W0 β0 41 none [.code c0] ⟨[(.ptr x0),(.str x1),τ,τ,τ,τ,τ,τ,τ,τ,τ,τ,τ,τ,τ,τ,τ,τ,τ,τ,τ,τ,τ,τ,τ,τ],[]⟩ S _
 refine qQ rfl (qR rfl rfl (qS 4 rfl (ok_assign · (.bool _)) (rE ?_)))
 try dsimp only [w0,w1,w2,w3]
 obtain ⟨p1,hp1,h⟩ := bindo h
 refine qQ rfl (qR rfl rfl (qS 8 rfl (oM · rfl) (qS 9 rfl (oM · rfl) (q_call (dst := some 10) rfl (.func _) (.cons (.tmp rfl) (.cons (.tmp rfl) Evs.nil)) (HInv.static book_Book_room_Room_at.at_ book_Book_room_Room_at.body (book_Book_room_Room_at.snd hD hH hp1)) ?_))))
 rintro _ _ ⟨rfl,rfl⟩
 refine qS 7 rfl (oM · rfl) ?_
 try dsimp only [w0,w1,w2,w3]
 refine qS 11 rfl (ok_extract · (.tmp rfl) rfl) (qS 12 rfl (ok_extract · (.tmp rfl) rfl) (qS 5 rfl (oA · rfl) (qS 6 rfl (oA · rfl) (rE ?_))))
 try dsimp only [w0,w1,w2,w3]
 refine qQ rfl (qQ rfl (qR rfl rfl (qS 13 rfl (oM · rfl) (rE ?_))))
 try dsimp only [w0,w1,w2,w3]
 rcases ifc h with ⟨hc2,h⟩ | ⟨hc2,h⟩
 ·obtain ⟨p3,hp3,h⟩ := bindo h
  refine q_cond_t rfl (.tmp rfl) hc2 (qR rfl rfl (qS 14 rfl (oM · rfl) (qS 15 rfl (oM · rfl) (qS 16 rfl (oN · rfl hp3) (qS 17 rfl (oF · fi120_1 (by decide) rfl rfl) ?_)))))
  try dsimp only [w0,w1,w2,w3]
  obtain ⟨p4,hp4,h⟩ := bindo h
  refine qS 18 rfl (oL · sc118 rfl rfl (ldSl_out hp4)) (qS 19 rfl (oM · rfl) (qS 20 rfl (oM · rfl) (qS 21 rfl (oC · rfl rfl) ?_)))
  try dsimp only [w0,w1,w2,w3]
  obtain ⟨p5,hp5,h⟩ := bindo h
  refine q_call (dst := some 22) rfl (.func _) (.cons (.tmp rfl) (.cons (.tmp rfl) (.cons (.tmp rfl) Evs.nil))) (HInv.static slices_Delete_book_entry_room_Room_book_entry_room_Room_w.at_ slices_Delete_book_entry_room_Room_book_entry_room_Room_w.body (slices_Delete_book_entry_room_Room_book_entry_room_Room_w.snd  hp5)) ?_
  rintro _ _ ⟨rfl,rfl⟩
  obtain ⟨p6,hp6,h⟩ := bindo h
  obtain ⟨p7,hp7,h⟩ := bindo h
  refine qS 23 rfl (oN · rfl hp6) (qS 24 rfl (oF · fi120_1 (by decide) rfl rfl) (qN rfl (ok_store_s (v := (Sl.hv p5.1)) · sz118 (.tmp rfl) rfl (.tmp rfl) rfl hp7) (rE ?_)))
  try dsimp only [w0,w1,w2,w3]
  exact J0_snd hD hH h
 ·refine q_cond_f rfl (.tmp rfl) (bfalse hc2) (q_skipc rfl ?_)
  try dsimp only [w0,w1,w2,w3]
  exact J0_snd hD hH h
end book_Book_room_Room_Delete
namespace rooms_Rooms_Part
theorem at_ : FnAt Tryz.prog 10 Tryz.f10 := ⟨Tryz.func10,by kernel_rfl⟩
def d0 := (Tryz.f10.body).getD .skip
def r1 := kR (kA d0)
def r3 := kR (kA (kB d0))
def r6 := kR (kA (kA (kB (kB d0))))
def r9 := kR (kA (kA (kB (kA (kB (kB d0))))))
def d12 := kB (kB (kB d0))
def r13 := kR (kA d12)
def r16 := kR (kA (kA (kB d12)))
def r18 := kR (kA (kB (kA (kB d12))))
def r21 := kR (kA (kB (kB d12)))
def c20 : Code := .seq (.region 7 r21 false) .ret
def c12 : Code := .seq (.region 4 r13 false) (.seq (.seq (.region 5 r16 false) (.cond (.tmp 33) (.region 6 r18 false) .skip)) c20)
def c7 : Code := .cond (.tmp 27) (.seq (.region 3 r9 false) .ret) .skip
def c0 : Code := .seq (.region 0 r1 false) (.seq (.region 1 r3 false) (.seq (.seq (.region 2 r6 true) c7) c12))
theorem body : Tryz.f10.body = some c0 := by kernel_rfl
def J1 (D : Dp) (H : Hd) (k : Nat) (S : HS) : Option ((Bool) × HS) :=
 some (true,S)
theorem J1_snd (hD : DS base W0 D) (hH : HT base W0 β0 H)  {S : HS} {p : (Bool) × HS} (h : J1 D H k S = some p) : HR base W0 β0 10 none [.code c20] ⟨[Ga,Gb,Gc,Gd,Ge,Gf,Gg,Gh,Gi,Gj,Gk,Gl,Gm,Gn,Go,Gp,Gq,Gr,Gs,Gt,Gu,Gv,Gw,Gx,Gy,Gz,Ka,Kb,Kc,Kd,Ke,Kf,Kg,Kh,Ki,Kj,Kk,Kl,Km,Kn],[]⟩ S (fun v S1 => v = (.bool p.1) ∧ S1 = p.2) := by
 unfold J1 at h
 refine qQ rfl (qR rfl rfl (qS 6 rfl (ok_assign · (.bool _)) (rE ?_)))
 cases h
 exact q_ret rfl at_.at_ rfl (res1 rfl rfl) ⟨rfl,rfl⟩
def J0 (D : Dp) (H : Hd) (k : Nat) (y0 : HP) (y1 : Int) (y2 : (List UInt8)) (y7 : HP) (y27 : Bool) (S : HS) : Option ((Bool) × HS) :=
 (if y27 = true then
 some (false,S) else
 ((room_Room_Drop.f D H k y7 y1 S).bind fun p4 =>
 ((room_Room_Len.f y7 p4.2).bind fun p5 =>
 (if p5.1 = 0 then
 (y0.bind fun p7 =>
 ((p5.2.ldP (HA.fld p7 15)).bind fun p8 =>
 ((book_Book_room_Room_Delete.f D H k p8 y2 p5.2).bind fun p9 =>
 J1 D H k p9.2))) else
 J1 D H k p5.2))))
theorem J0_snd (hD : DS base W0 D) (hH : HT base W0 β0 H)  {y0 : HP} {y1 : Int} {y2 : (List UInt8)} {y7 : HP} {y27 : Bool} {S : HS} {p : (Bool) × HS} (h : J0 D H k y0 y1 y2 y7 y27 S = some p) : HR base W0 β0 10 none [.code c7,.code c12] ⟨[(.ptr y0),(.int .i64 y1),(.str y2),Gd,Ge,Gf,Gg,(.ptr y7),Gi,Gj,Gk,Gl,Gm,Gn,Go,Gp,Gq,Gr,Gs,Gt,Gu,Gv,Gw,Gx,Gy,Gz,Ka,(.bool y27),Kc,Kd,Ke,Kf,Kg,Kh,Ki,Kj,Kk,Kl,Km,Kn],[]⟩ S (fun v S1 => v = (.bool p.1) ∧ S1 = p.2) := by
 unfold J0 at h
 rcases ifc h with ⟨hc3,h⟩ | ⟨hc3,h⟩
 ·refine q_cond_t rfl (.tmp rfl) hc3 (qQ rfl (qR rfl rfl (qS 6 rfl (ok_assign · (.bool _)) (rE ?_))))
  cases h
  exact q_ret rfl at_.at_ rfl (res1 rfl rfl) ⟨rfl,rfl⟩
 ·obtain ⟨p4,hp4,h⟩ := bindo h
  refine q_cond_f rfl (.tmp rfl) (bfalse hc3) (q_skipc rfl (qQ rfl (qR rfl rfl (qS 28 rfl (oM · rfl) (qS 29 rfl (oM · rfl) (q_call (dst := some 30) rfl (.func _) (.cons (.tmp rfl) (.cons (.tmp rfl) Evs.nil)) (HInv.static room_Room_Drop.at_ room_Room_Drop.body (room_Room_Drop.snd hD hH hp4)) ?_))))))
  rintro _ _ ⟨rfl,rfl⟩
  refine rE ?_
  try dsimp only [w0,w1,w2,w3]
  obtain ⟨p5,hp5,h⟩ := bindo h
  refine qQ rfl (qQ rfl (qR rfl rfl (qS 31 rfl (oM · rfl) (q_call (dst := some 32) rfl (.func _) (.cons (.tmp rfl) Evs.nil) (HInv.static room_Room_Len.at_ room_Room_Len.body (room_Room_Len.snd  hp5)) ?_))))
  rintro _ _ ⟨rfl,rfl⟩
  refine qS 33 rfl (oC · rfl rfl) (rE ?_)
  try dsimp only [w0,w1,w2,w3]
  rcases ifc h with ⟨hc6,h⟩ | ⟨hc6,h⟩
  ·obtain ⟨p7,hp7,h⟩ := bindo h
   obtain ⟨p8,hp8,h⟩ := bindo h
   refine q_cond_t rfl (.tmp rfl) (decide_eq_true hc6) (qR rfl rfl (qS 34 rfl (oM · rfl) (qS 35 rfl (oN · rfl hp7) (qS 36 rfl (oF · fi83_1 (by decide) rfl rfl) (qS 37 rfl (oL · sc75 rfl rfl (ldP_out hp8)) ?_)))))
   try dsimp only [w0,w1,w2,w3]
   obtain ⟨p9,hp9,h⟩ := bindo h
   refine qS 38 rfl (oM · rfl) (q_call (dst := some 39) rfl (.func _) (.cons (.tmp rfl) (.cons (.tmp rfl) Evs.nil)) (HInv.static book_Book_room_Room_Delete.at_ book_Book_room_Room_Delete.body (book_Book_room_Room_Delete.snd hD hH hp9)) ?_)
   rintro _ _ ⟨rfl,rfl⟩
   refine rE ?_
   try dsimp only [w0,w1,w2,w3]
   exact J1_snd hD hH h
  ·refine q_cond_f rfl (.tmp rfl) (decide_eq_false hc6) (q_skipc rfl ?_)
   try dsimp only [w0,w1,w2,w3]
   exact J1_snd hD hH h
def f (D : Dp) (H : Hd) (k : Nat) (x0 : HP) (x1 : Int) (x2 : (List UInt8)) (S : HS) : Option ((Bool) × HS) :=
 ((rooms_Rooms_Get.f D H k x0 x2 S).bind fun p1 =>
 (if (!p1.1.2) = true then
 J0 D H k x0 x1 x2 p1.1.1 true p1.2 else
 (x0.bind fun p10 =>
 ((p1.2.ldP (HA.fld p10 16)).bind fun p11 =>
 ((fold_Text.f k x2 p1.2).bind fun p12 =>
 ((p12.2.ldP (HA.fld p10 16)).bind fun p13 =>
 (if p13 = p11 then
 ((pair_Rel_int_string_Remove.f k p11 x1 p12.1 p12.2).bind fun p15 =>
 J0 D H k x0 x1 x2 p1.1.1 (!p15.1) p15.2) else none)))))))
theorem snd {x0 : HP} {x1 : Int} {x2 : (List UInt8)} {S : HS} (hD : DS base W0 D) (hH : HT base W0 β0 H)  {p : (Bool) × HS} (h : f D H k x0 x1 x2 S = some p) : HCall Tryz.prog base W0 β0 10 [(.ptr x0),(.int .i64 x1),(.str x2)] S (fun v S1 => v = (.bool p.1) ∧ S1 = p.2) := by
 unfold f at h
 refine HCall.of_run at_.at_ body ?_
 show HR base W0 β0 10 none [.code c0] ⟨[(.ptr x0),(.int .i64 x1),(.str x2),τ,τ,τ,τ,τ,τ,τ,τ,τ,τ,τ,τ,τ,τ,τ,τ,τ,τ,τ,τ,τ,τ,τ,τ,τ,τ,τ,τ,τ,τ,τ,τ,τ,τ,τ,τ,τ],[]⟩ S _
 refine qQ rfl (qR rfl rfl (qS 6 rfl (ok_assign · (.bool _)) (rE ?_)))
 try dsimp only [w0,w1,w2,w3]
 obtain ⟨p1,hp1,h⟩ := bindo h
 refine qQ rfl (qR rfl rfl (qS 10 rfl (oM · rfl) (qS 11 rfl (oM · rfl) (q_call (dst := some 12) rfl (.func _) (.cons (.tmp rfl) (.cons (.tmp rfl) Evs.nil)) (HInv.static rooms_Rooms_Get.at_ rooms_Rooms_Get.body (rooms_Rooms_Get.snd hD hH hp1)) ?_))))
 rintro _ _ ⟨rfl,rfl⟩
 refine qS 9 rfl (oM · rfl) ?_
 try dsimp only [w0,w1,w2,w3]
 refine qS 13 rfl (ok_extract · (.tmp rfl) rfl) (qS 14 rfl (ok_extract · (.tmp rfl) rfl) (qS 7 rfl (oA · rfl) (qS 8 rfl (oA · rfl) (rE ?_))))
 try dsimp only [w0,w1,w2,w3]
 refine qQ rfl (qQ rfl ?_)
 refine x_start (cls := [0,0,0,0,0,0,3,0,0,2,2,0,0]) (rk := [0,1,2,3,4,5,6,7,8,9,10,11,12]) rfl (by kernel_rfl) ?_
 refine xf 15 [8] rfl (oM · rfl) ?_
 refine xf 16 [15] rfl (ok_not · (.tmp rfl)) ?_
 refine xf 17 [16] rfl (oM · rfl) ?_
 rcases ifc h with ⟨hc2,h⟩ | ⟨hc2,h⟩
 ·refine xfs 18 17 [0,17] rfl hc2 ?_
  try dsimp only [w0,w1,w2,w3]
  refine xfs 19 17 [18,17] rfl hc2 ?_
  refine xfs 20 17 [19,17] rfl hc2 ?_
  refine x_late (r_skip (dst := some 21) (t := 17) (ts := [20,17]) rfl (by kernel_rfl) rfl rfl hc2) rfl trivial ?_
  refine xfs 22 17 [1,17] rfl hc2 ?_
  try dsimp only [w0,w1,w2,w3]
  refine xfs 23 17 [2,17] rfl hc2 ?_
  refine zes 24 17 [23,17] rfl hc2 ⟨.inr (l_skip (dst := some 21) (t := 17) (ts := [20,17]) rfl (by kernel_rfl) rfl rfl hc2),trivial⟩ ?_
  refine zes 25 17 [21,22,24,17] rfl hc2 ⟨.inl (by kernel_rfl),trivial⟩ ?_
  refine xfs 26 17 [25,17] rfl hc2 ?_
  try dsimp only [w0,w1,w2,w3]
  refine xf 27 [17,26] rfl (ok_pick_tt · (.tmp rfl) hc2 (.bool _)) ?_
  refine x_rest rfl ?_
  refine rE ?_
  try dsimp only [w0,w1,w2,w3]
  exact J0_snd hD hH h
 ·refine xfg 18 17 [0,17] rfl (bfalse hc2) (oM · rfl) ?_
  try dsimp only [w0,w1,w2,w3]
  obtain ⟨p10,hp10,h⟩ := bindo h
  refine xfg 19 17 [18,17] rfl (bfalse hc2) (oN · rfl hp10) ?_
  refine xfg 20 17 [19,17] rfl (bfalse hc2) (oF · fi83_2 (by decide) rfl rfl) ?_
  obtain ⟨p11,hp11,h⟩ := bindo h
  refine x_late (r_op_g (dst := some 21) (t := 17) (ts := [20,17]) rfl (by intro _ _ h; cases h) (by kernel_rfl) rfl rfl (bfalse hc2) (fun _ ho => ok_load_s ho sc79 (.tmp rfl) rfl (ldP_out hp11))) rfl trivial ?_
  refine xfg 22 17 [1,17] rfl (bfalse hc2) (oM · rfl) ?_
  try dsimp only [w0,w1,w2,w3]
  refine xfg 23 17 [2,17] rfl (bfalse hc2) (oM · rfl) ?_
  obtain ⟨p12,hp12,h⟩ := bindo h
  obtain ⟨p13,hp13,h⟩ := bindo h
  obtain ⟨hg14,h⟩ := gd h
  refine x_goE (e_call_g (dst := some 24) (t := 17) (ts := [23,17]) rfl (by kernel_rfl) rfl rfl (bfalse hc2) (.func _) (.cons (.tmp rfl) Evs.nil) (HInv.static fold_Text.at_ fold_Text.body (fold_Text.snd  hp12))) rfl ⟨.inr (l_op_g (dst := some 21) (t := 17) (ts := [20,17]) rfl (by intro _ _ h; cases h) (by kernel_rfl) rfl rfl (bfalse hc2) (fun _ ho => ok_load_s ho sc79 (.tmp rfl) rfl (ldP_out (hp13.trans (congrArg some hg14))))),trivial⟩ ?_
  obtain ⟨p15,hp15,h⟩ := bindo h
  refine x_goE (e_call_g (dst := some 25) (t := 17) (ts := [21,22,24,17]) rfl (by kernel_rfl) rfl rfl (bfalse hc2) (.func _) (.cons (.tmp rfl) (.cons (.tmp rfl) (.cons (.tmp rfl) Evs.nil))) (HInv.static pair_Rel_int_string_Remove.at_ pair_Rel_int_string_Remove.body (pair_Rel_int_string_Remove.snd  hp15))) rfl ⟨.inl (by kernel_rfl),trivial⟩ ?_
  refine xfg 26 17 [25,17] rfl (bfalse hc2) (ok_not · (.tmp rfl)) ?_
  try dsimp only [w0,w1,w2,w3]
  refine xf 27 [17,26] rfl (ok_pick_ff · (.tmp rfl) (bfalse hc2) (.tmp rfl)) ?_
  refine x_rest rfl ?_
  refine rE ?_
  try dsimp only [w0,w1,w2,w3]
  exact J0_snd hD hH h
end rooms_Rooms_Part
namespace rooms_Rooms_Leave
theorem at_ : FnAt Tryz.prog 28 Tryz.f28 := ⟨Tryz.func28,by kernel_rfl⟩
def d0 := (Tryz.f28.body).getD .skip
def r1 := kR (kA d0)
def r3 := kR (kA (kB d0))
def d5 := kA (kB (kB d0))
def r6 := kR (kA d5)
def r9 := kR (kA (kA (kB d5)))
def r12 := kR (kA (kA (kB (kA (kB d5)))))
def r13 := kR (kB (kA (kB (kA (kB d5)))))
def r15 := kR (kA (kB (kB (kB d0))))
def c10 : Code := .block 1 (.seq (.region 4 r12 true) (.region 5 r13 false))
def c9 : Code := .region 3 r9 false
def c0 : Code := .seq (.region 0 r1 false) (.seq (.region 1 r3 false) (.seq (.seq (.region 2 r6 false) (.block 0 (.rangeFunc (.tmp 9) #[10] c9 c10))) (.seq (.region 6 r15 false) .ret)))
theorem body : Tryz.f28.body = some c0 := by kernel_rfl
def J0 (D : Dp) (H : Hd) (k : Nat) (l : Nat) (y2 : HP) (y3 : HP) (y5 : HP) (y10 : HP) (S : HS) : Option (HV × HS) :=
 ((S.begin_ l).bind fun p8 =>
 (y2.bind fun p9 =>
 ((p8.ldP p9).bind fun p10 =>
 (y3.bind fun p11 =>
 ((p8.ldI .i64 p11).bind fun p12 =>
 ((room_Room_Name.f y10 p8).bind fun p13 =>
 ((p13.2.ldI .i64 p11).bind fun p14 =>
 (if p14 = p12 then
 ((p13.2.ldP p9).bind fun p16 =>
 (if p16 = p10 then
 ((rooms_Rooms_Part.f D H k p10 p12 p13.1 p13.2).bind fun p18 =>
 (y5.bind fun p19 =>
 ((p18.2.ldI .i64 p19).bind fun p20 =>
 (y5.bind fun p21 =>
 ((p18.2.sets p21 [(.int .i64 (w64 (p20 + 1)))]).bind fun p22 =>
 (HS.endr p22 l none)))))) else none)) else none))))))))
theorem J0_snd {l : Nat} (hD : DS base W0 D) (hH : HT base W0 β0 H)  {y2 : HP} {y3 : HP} {y5 : HP} {y10 : HP} {S : HS} {p : HV × HS} (h : J0 D H k l y2 y3 y5 y10 S = some p) : HR base W0 β0 28 (some l) [.code c9,.beginRound,.code c10] ⟨[Ga,Gb,(.ptr y2),(.ptr y3),Ge,(.ptr y5),Gg,Gh,Gi,Gj,(.ptr y10),Gl,Gm,Gn,Go,Gp,Gq,Gr,Gs],[]⟩ S (fun v S1 => v = p.1 ∧ S1 = p.2) := by
 unfold J0 at h
 refine qR rfl rfl (qS 6 rfl (oA · rfl) (rE ?_))
 try dsimp only [w0,w1,w2,w3]
 obtain ⟨p8,hp8,h⟩ := bindo h
 refine q_begin hp8 ?_
 refine q_block rfl (qQ rfl ?_)
 refine x_start (cls := [3,3,0,2,2]) (rk := [0,1,2,3,4]) rfl (by kernel_rfl) ?_
 obtain ⟨p9,hp9,h⟩ := bindo h
 obtain ⟨p10,hp10,h⟩ := bindo h
 refine x_late (r_op (dst := some 11) (ts := [2]) rfl (by intro _ _ h; cases h) (by kernel_rfl) (fun _ ho => ok_load_s ho sc25 (.tmp rfl) hp9 (ldP_out hp10))) rfl trivial ?_
 obtain ⟨p11,hp11,h⟩ := bindo h
 obtain ⟨p12,hp12,h⟩ := bindo h
 refine x_late (r_op (dst := some 12) (ts := [3]) rfl (by intro _ _ h; cases h) (by kernel_rfl) (fun _ ho => ok_load_s ho sc3 (.tmp rfl) hp11 (ldI_out hp12))) rfl trivial ?_
 refine xf 13 [6] rfl (oM · rfl) ?_
 obtain ⟨p13,hp13,h⟩ := bindo h
 obtain ⟨p14,hp14,h⟩ := bindo h
 obtain ⟨hg15,h⟩ := gd h
 obtain ⟨p16,hp16,h⟩ := bindo h
 obtain ⟨hg17,h⟩ := gd h
 refine x_goE (e_call (dst := some 14) (ts := [13]) rfl (by kernel_rfl) (.func _) (.cons (.tmp rfl) Evs.nil) (HInv.static room_Room_Name.at_ room_Room_Name.body (room_Room_Name.snd  hp13))) rfl ⟨.inr (l_op (dst := some 12) (ts := [3]) rfl (by intro _ _ h; cases h) (by kernel_rfl) (fun _ ho => ok_load_s ho sc3 (.tmp rfl) hp11 (ldI_out (hp14.trans (congrArg some hg15))))),.inr (l_op (dst := some 11) (ts := [2]) rfl (by intro _ _ h; cases h) (by kernel_rfl) (fun _ ho => ok_load_s ho sc25 (.tmp rfl) hp9 (ldP_out (hp16.trans (congrArg some hg17))))),trivial⟩ ?_
 try dsimp only [w0,w1,w2,w3]
 obtain ⟨p18,hp18,h⟩ := bindo h
 refine x_goE (e_call (dst := some 15) (ts := [11,12,14]) rfl (by kernel_rfl) (.func _) (.cons (.tmp rfl) (.cons (.tmp rfl) (.cons (.tmp rfl) Evs.nil))) (HInv.static rooms_Rooms_Part.at_ rooms_Rooms_Part.body (rooms_Rooms_Part.snd hD hH hp18))) rfl ⟨.inl (by kernel_rfl),.inl (by kernel_rfl),trivial⟩ ?_
 refine x_rest rfl ?_
 refine rE ?_
 try dsimp only [w0,w1,w2,w3]
 obtain ⟨p19,hp19,h⟩ := bindo h
 obtain ⟨p20,hp20,h⟩ := bindo h
 obtain ⟨p21,hp21,h⟩ := bindo h
 obtain ⟨p22,hp22,h⟩ := bindo h
 refine qR rfl rfl (qS 16 rfl (oL · sc3 rfl hp19 (ldI_out hp20)) (qS 17 rfl (oC · rfl rfl) (qN rfl (ok_store_s (v := (.int .i64 (w64 (p20 + 1)))) · sz3 (.tmp rfl) hp21 (.tmp rfl) rfl hp22) (rE ?_))))
 try dsimp only [w0,w1,w2,w3]
 refine hr_inBlock ?_
 exact q_round_end h ⟨rfl,rfl⟩
def f (D : Dp) (H : Hd) (k : Nat) (x0 : HP) (x1 : Int) (S : HS) : Option ((Int) × HS) :=
 (letv (HS.new S (.cells 1 [[(.ptr x0)]] true)) fun p1 =>
 (letv (HS.new p1 (.cells 1 [[(.int .i64 x1)]] true)) fun p2 =>
 (letv (HS.new p2 (.cells 1 [[(.int .i64 0)]] true)) fun p3 =>
 ((p3.sets (HA.cell0 p2.next) [(.int .i64 0)]).bind fun p4 =>
 ((p4.ldP (HA.cell0 S.next)).bind fun p5 =>
 ((p4.ldI .i64 (HA.cell0 p1.next)).bind fun p6 =>
 ((rooms_Rooms_Of.f D H k p5 p6 p4).bind fun p7 =>
 ((D (Hd.set H (HS.next p7.2 + 1) fun vs T =>
 ((T.lp (HS.next p7.2 + 1)).bind fun u25 =>
 ((args1 vs).bind fun ar23 =>
 ((dP ar23).bind fun p24 =>
 (J0 D H k (HS.next p7.2 + 1) (some (HA.cell0 S.next)) (some (HA.cell0 p1.next)) (some (HA.cell0 p2.next)) p24 T))))) p7.1 [.fn (.yield (HS.next p7.2 + 1)) [] []] (HS.new (HS.new p7.2 .defer) (.loop .ready none))).bind fun p26 =>
 ((p26.2.finish (HS.next p7.2 + 1)).bind fun p27 =>
 ((pcode p27.1).bind fun n28 =>
 (if n28 = 0 then
 ((p27.2.ldI .i64 (HA.cell0 p2.next)).bind fun p30 =>
 ((p27.2.leave (HS.next p7.2 :: [])).bind fun p31 =>
 some (p30,p31))) else
 none)))))))))))
theorem snd {x0 : HP} {x1 : Int} {S : HS} (hD : DS base W0 D) (hH : HT base W0 β0 H)  {p : (Int) × HS} (h : f D H k x0 x1 S = some p) : HCall Tryz.prog base W0 β0 28 [(.ptr x0),(.int .i64 x1)] S (fun v S1 => v = (.int .i64 p.1) ∧ S1 = p.2) := by
 unfold f at h
 refine HCall.of_run at_.at_ body ?_
 show HR base W0 β0 28 none [.code c0] ⟨[(.ptr x0),(.int .i64 x1),τ,τ,τ,τ,τ,τ,τ,τ,τ,τ,τ,τ,τ,τ,τ,τ,τ],[]⟩ S _
 obtain ⟨p1,hp1,h⟩ := leto h
 obtain ⟨p2,hp2,h⟩ := leto h
 refine qQ rfl (qR rfl rfl (qS 2 rfl (ok_box_e · (.tmp rfl) (Nat.zero_lt_succ _) rfl hp1) (qS 3 rfl (ok_box_e · (.tmp rfl) (Nat.zero_lt_succ _) rfl hp2) (qS 4 rfl (ok_assign · (.int _ _)) (rE ?_)))))
 try dsimp only [w0,w1,w2,w3]
 obtain ⟨p3,hp3,h⟩ := leto h
 obtain ⟨p4,hp4,h⟩ := bindo h
 refine qQ rfl (qR rfl rfl (qS 5 rfl (ok_alloc_e · zi3 zr3 (by decide) rfl hp3) (qN rfl (ok_store_s (v := (.int .i64 0)) · sz3 (.tmp rfl) rfl (.int _ _) rfl hp4) (rE ?_))))
 try dsimp only [w0,w1,w2,w3]
 obtain ⟨p5,hp5,h⟩ := bindo h
 obtain ⟨p6,hp6,h⟩ := bindo h
 obtain ⟨p7,hp7,h⟩ := bindo h
 refine qQ rfl (qQ rfl (qR rfl rfl (qS 7 rfl (oL · sc25 rfl rfl (ldP_out hp5)) (qS 8 rfl (oL · sc3 rfl rfl (ldI_out hp6)) (q_call (dst := some 9) rfl (.func _) (.cons (.tmp rfl) (.cons (.tmp rfl) Evs.nil)) (HInv.static rooms_Rooms_Of.at_ rooms_Rooms_Of.body (rooms_Rooms_Of.snd hD hH hp7)) ?_)))))
 rintro _ _ ⟨rfl,rfl⟩
 refine rE ?_
 try dsimp only [w0,w1,w2,w3]
 obtain ⟨p26,hp26,h⟩ := bindo h
 obtain ⟨p27,hp27,h⟩ := bindo h
 obtain ⟨n28,hn28,h⟩ := bindo h
 refine q_block rfl ?_
 refine q_range (D := D) (H := H) rfl (.tmp rfl) hD hH hp26 hp27 ?_ ?_
 ·intro β1 hle hLA vs T u T' hr
  obtain ⟨u25,hu25,hr⟩ := bindo hr
  obtain ⟨ar23,har23,hr⟩ := bindo hr
  obtain ⟨p24,hp24,hr⟩ := bindo hr
  rw [args1_out har23]
  refine q_yield2 hLA hu25 rfl rfl ?_
  rw [dP_out hp24]
  simp only [HAct.params,List.set_cons_zero,List.set_cons_succ]
  exact J0_snd hD (hH.up hle) hr
 ·rcases ifc h with ⟨hc29,h⟩ | ⟨hc29,h⟩
  ·rw [pcode0 hn28 hc29]
   simp only [jumped_none,jumped_some]
   obtain ⟨p30,hp30,h⟩ := bindo h
   refine hr_inBlock (qQ rfl (qR rfl rfl (qS 18 rfl (oL · sc3 rfl rfl (ldI_out hp30)) (qS 4 rfl (oA · rfl) (rE ?_)))))
   try dsimp only [w0,w1,w2,w3]
   obtain ⟨p31,hp31,h⟩ := bindo h
   cases h
   exact q_ret rfl at_.at_ hp31 (res1 rfl rfl) ⟨rfl,rfl⟩
  ·cases h
end rooms_Rooms_Leave
namespace room_Room_Member
theorem at_ : FnAt Tryz.prog 26 Tryz.f26 := ⟨Tryz.func26,by kernel_rfl⟩
def d0 := (Tryz.f26.body).getD .skip
def r1 := kR (kA d0)
def r3 := kR (kA (kB d0))
def r6 := kR (kA (kA (kB (kB d0))))
def r9 := kR (kA (kA (kB (kA (kB (kB d0))))))
def r13 := kR (kA (kB (kB (kB d0))))
def c0 : Code := .seq (.region 0 r1 false) (.seq (.region 1 r3 false) (.seq (.seq (.region 2 r6 false) (.cond (.tmp 15) (.seq (.region 3 r9 false) .ret) .skip)) (.seq (.region 4 r13 false) .ret)))
theorem body : Tryz.f26.body = some c0 := by kernel_rfl
def f (D : Dp) (H : Hd) (k : Nat) (x0 : HP) (x1 : Int) (S : HS) : Option ((Int × Bool × Bool × Bool) × HS) :=
 (letv (HS.new S (.cells 3 [[(.int .i64 0),(.bool false),(.bool false)]] true)) fun p1 =>
 ((room_Room_at.f D H k x0 x1 p1).bind fun p2 =>
 (if (!p2.1.2) = true then
 ((p2.2.sets (HA.cell0 S.next) [(.int .i64 0),(.bool false),(.bool false)]).bind fun p4 =>
 ((p4.ldI .i64 (HA.fld (HA.cell0 S.next) 0)).bind fun p5 =>
 ((p4.ldB (HA.fld (HA.cell0 S.next) 1)).bind fun p6 =>
 ((p4.ldB (HA.fld (HA.cell0 S.next) 2)).bind fun p7 =>
 some ((p5,p6,p7,false),p4))))) else
 (x0.bind fun p8 =>
 ((p2.2.ldSl (HA.fld p8 2)).bind fun p9 =>
 ((p2.2.idx p9 p2.1.1 3).bind fun p10 =>
 ((p2.2.ldI .i64 (HA.fld p10 0)).bind fun p11 =>
 ((p2.2.ldB (HA.fld p10 1)).bind fun p12 =>
 ((p2.2.ldB (HA.fld p10 2)).bind fun p13 =>
 ((p2.2.sets (HA.cell0 S.next) [(.int .i64 p11),(.bool p12),(.bool p13)]).bind fun p14 =>
 ((p14.ldI .i64 (HA.fld (HA.cell0 S.next) 0)).bind fun p15 =>
 ((p14.ldB (HA.fld (HA.cell0 S.next) 1)).bind fun p16 =>
 ((p14.ldB (HA.fld (HA.cell0 S.next) 2)).bind fun p17 =>
 some ((p15,p16,p17,true),p14))))))))))))))
theorem snd {x0 : HP} {x1 : Int} {S : HS} (hD : DS base W0 D) (hH : HT base W0 β0 H)  {p : (Int × Bool × Bool × Bool) × HS} (h : f D H k x0 x1 S = some p) : HCall Tryz.prog base W0 β0 26 [(.ptr x0),(.int .i64 x1)] S (fun v S1 => v = (.tup [(.agg [(.int .i64 p.1.1),(.bool p.1.2.1),(.bool p.1.2.2.1)]),(.bool p.1.2.2.2)]) ∧ S1 = p.2) := by
 unfold f at h
 refine HCall.of_run at_.at_ body ?_
 show HR base W0 β0 26 none [.code c0] ⟨[(.ptr x0),(.int .i64 x1),τ,τ,τ,τ,τ,τ,τ,τ,τ,τ,τ,τ,τ,τ,τ,τ,τ,τ,τ,τ,τ,τ],[]⟩ S _
 obtain ⟨p1,hp1,h⟩ := leto h
 refine qQ rfl (qR rfl rfl (qS 4 rfl (ok_alloc_e · zi62 zr62 (by decide) rfl hp1) (qS 5 rfl (ok_assign · (.bool _)) (rE ?_))))
 try dsimp only [w0,w1,w2,w3]
 obtain ⟨p2,hp2,h⟩ := bindo h
 refine qQ rfl (qR rfl rfl (qS 9 rfl (oM · rfl) (qS 10 rfl (oM · rfl) (q_call (dst := some 11) rfl (.func _) (.cons (.tmp rfl) (.cons (.tmp rfl) Evs.nil)) (HInv.static room_Room_at.at_ room_Room_at.body (room_Room_at.snd hD hH hp2)) ?_))))
 rintro _ _ ⟨rfl,rfl⟩
 refine qS 8 rfl (oM · rfl) ?_
 try dsimp only [w0,w1,w2,w3]
 refine qS 12 rfl (ok_extract · (.tmp rfl) rfl) (qS 13 rfl (ok_extract · (.tmp rfl) rfl) (qS 6 rfl (oA · rfl) (qS 7 rfl (oA · rfl) (rE ?_))))
 try dsimp only [w0,w1,w2,w3]
 refine qQ rfl (qQ rfl (qR rfl rfl (qS 14 rfl (oM · rfl) (qS 15 rfl (ok_not · (.tmp rfl)) (rE ?_)))))
 try dsimp only [w0,w1,w2,w3]
 rcases ifc h with ⟨hc3,h⟩ | ⟨hc3,h⟩
 ·obtain ⟨p4,hp4,h⟩ := bindo h
  refine q_cond_t rfl (.tmp rfl) hc3 (qQ rfl (qR rfl rfl (qS 16 rfl (ok_build (is := []) (xs := []) (r := [(.int .i64 0),(.bool false),(.bool false)]) st62 · rfl rfl Evs.nil rfl) (qN rfl (ok_store_s (v := (.agg [(.int .i64 0),(.bool false),(.bool false)])) · sz62 (.tmp rfl) rfl (.tmp rfl) rfl hp4) (qS 5 rfl (ok_assign · (.bool _)) (rE ?_))))))
  try dsimp only [w0,w1,w2,w3]
  obtain ⟨p5,hp5,h⟩ := bindo h
  obtain ⟨p6,hp6,h⟩ := bindo h
  obtain ⟨p7,hp7,h⟩ := bindo h
  cases h
  exact q_ret rfl at_.at_ rfl (resL (rs := [.cell 4 62,.tmp 5]) rfl (.cons (.agg (vs := [(.int .i64 p5),(.bool p6),(.bool p7)]) rfl rfl ia62 ⟨ldI_out hp5,ldB_out hp6,ldB_out hp7,trivial⟩ (by simp)) (.cons (.tmp rfl) .nil)) (by simp)) ⟨rfl,rfl⟩
 ·obtain ⟨p8,hp8,h⟩ := bindo h
  obtain ⟨p9,hp9,h⟩ := bindo h
  refine q_cond_f rfl (.tmp rfl) (bfalse hc3) (q_skipc rfl (qQ rfl (qR rfl rfl (qS 17 rfl (oM · rfl) (qS 18 rfl (oN · rfl hp8) (qS 19 rfl (oF · fi114_2 (by decide) rfl rfl) (qS 20 rfl (oL · sc87 rfl rfl (ldSl_out hp9)) ?_)))))))
  try dsimp only [w0,w1,w2,w3]
  obtain ⟨p10,hp10,h⟩ := bindo h
  obtain ⟨p11,hp11,h⟩ := bindo h
  obtain ⟨p12,hp12,h⟩ := bindo h
  obtain ⟨p13,hp13,h⟩ := bindo h
  obtain ⟨p14,hp14,h⟩ := bindo h
  refine qS 21 rfl (oM · rfl) (qS 22 rfl (oX (s := p9) · tu87 sz62 rfl rfl hp10) (qS 23 rfl (ok_load_a (vs := [(.int .i64 p11),(.bool p12),(.bool p13)]) · ia62 (.tmp rfl) rfl ⟨ldI_out hp11,ldB_out hp12,ldB_out hp13,trivial⟩ (by simp)) (qN rfl (ok_store_s (v := (.agg [(.int .i64 p11),(.bool p12),(.bool p13)])) · sz62 (.tmp rfl) rfl (.tmp rfl) rfl hp14) ?_)))
  try dsimp only [w0,w1,w2,w3]
  refine qS 5 rfl (ok_assign · (.bool _)) (rE ?_)
  try dsimp only [w0,w1,w2,w3]
  obtain ⟨p15,hp15,h⟩ := bindo h
  obtain ⟨p16,hp16,h⟩ := bindo h
  obtain ⟨p17,hp17,h⟩ := bindo h
  cases h
  exact q_ret rfl at_.at_ rfl (resL (rs := [.cell 4 62,.tmp 5]) rfl (.cons (.agg (vs := [(.int .i64 p15),(.bool p16),(.bool p17)]) rfl rfl ia62 ⟨ldI_out hp15,ldB_out hp16,ldB_out hp17,trivial⟩ (by simp)) (.cons (.tmp rfl) .nil)) (by simp)) ⟨rfl,rfl⟩
end room_Room_Member
namespace rooms_Rooms_Common
theorem at_ : FnAt Tryz.prog 18 Tryz.f18 := ⟨Tryz.func18,by kernel_rfl⟩
def d0 := (Tryz.f18.body).getD .skip
def r1 := kR (kA d0)
def r4 := kR (kA (kA (kB d0)))
def d5 := kB (kA (kB d0))
def r7 := kR (kA (kA d5))
def r10 := kR (kA (kA (kB (kA d5))))
def r12 := kR (kA (kB (kA (kB (kA d5)))))
def r15 := kR (kA (kA (kB (kB (kA (kB (kA d5)))))))
def r19 := kR (kA (kB (kB d0)))
def c8 : Code := .block 1 (.seq (.region 3 r10 false) (.seq (.region 4 r12 false) (.cond (.tmp 20) (.seq (.region 5 r15 false) .ret) .skip)))
def c7 : Code := .region 2 r7 false
def c0 : Code := .seq (.region 0 r1 false) (.seq (.seq (.region 1 r4 false) (.block 0 (.rangeFunc (.tmp 12) #[13] c7 c8))) (.seq (.region 6 r19 false) .ret))
theorem body : Tryz.f18.body = some c0 := by kernel_rfl
def J0 (D : Dp) (H : Hd) (k : Nat) (l : Nat) (y5 : HP) (y6 : HP) (y13 : HP) (S : HS) : Option (HV × HS) :=
 ((S.begin_ l).bind fun p4 =>
 (y5.bind fun p5 =>
 ((p4.ldI .i64 p5).bind fun p6 =>
 ((room_Room_Member.f D H k y13 p6 p4).bind fun p7 =>
 (letv (HS.new p7.2 (.cells 3 [[(.int .i64 0),(.bool false),(.bool false)]] true)) fun p8 =>
 ((p8.sets (HA.cell0 p7.2.next) [(.int .i64 p7.1.1),(.bool p7.1.2.1),(.bool p7.1.2.2.1)]).bind fun p9 =>
 (if p7.1.2.2.2 = true then
 (y6.bind fun p11 =>
 ((p9.sets p11 [(.bool true)]).bind fun p12 =>
 (HS.endr p12 l (some .ret)))) else
 (HS.endr p9 l none))))))))
theorem J0_snd {l : Nat} (hD : DS base W0 D) (hH : HT base W0 β0 H)  {y5 : HP} {y6 : HP} {y13 : HP} {S : HS} {p : HV × HS} (h : J0 D H k l y5 y6 y13 S = some p) : HR base W0 β0 18 (some l) [.code c7,.beginRound,.code c8] ⟨[Ga,Gb,Gc,Gd,Ge,(.ptr y5),(.ptr y6),Gh,Gi,Gj,Gk,Gl,Gm,(.ptr y13),Go,Gp,Gq,Gr,Gs,Gt,Gu],[]⟩ S (fun v S1 => v = p.1 ∧ S1 = p.2) := by
 unfold J0 at h
 refine qR rfl rfl (qS 7 rfl (oA · rfl) (rE ?_))
 try dsimp only [w0,w1,w2,w3]
 obtain ⟨p4,hp4,h⟩ := bindo h
 refine q_begin hp4 ?_
 obtain ⟨p5,hp5,h⟩ := bindo h
 obtain ⟨p6,hp6,h⟩ := bindo h
 obtain ⟨p7,hp7,h⟩ := bindo h
 refine q_block rfl (qQ rfl (qR rfl rfl (qS 15 rfl (oM · rfl) (qS 16 rfl (oL · sc3 rfl hp5 (ldI_out hp6)) (q_call (dst := some 17) rfl (.func _) (.cons (.tmp rfl) (.cons (.tmp rfl) Evs.nil)) (HInv.static room_Room_Member.at_ room_Room_Member.body (room_Room_Member.snd hD hH hp7)) ?_)))))
 rintro _ _ ⟨rfl,rfl⟩
 refine qS 14 rfl (oM · rfl) ?_
 try dsimp only [w0,w1,w2,w3]
 obtain ⟨p8,hp8,h⟩ := leto h
 obtain ⟨p9,hp9,h⟩ := bindo h
 refine qS 18 rfl (ok_extract · (.tmp rfl) rfl) (qS 19 rfl (ok_extract · (.tmp rfl) rfl) (qS 8 rfl (ok_alloc_e · zi62 zr62 (by decide) rfl hp8) (qN rfl (ok_store_s (v := (.agg [(.int .i64 p7.1.1),(.bool p7.1.2.1),(.bool p7.1.2.2.1)])) · sz62 (.tmp rfl) rfl (.tmp rfl) rfl hp9) ?_)))
 try dsimp only [w0,w1,w2,w3]
 refine qS 9 rfl (oA · rfl) (rE ?_)
 try dsimp only [w0,w1,w2,w3]
 refine qQ rfl (qR rfl rfl (qS 20 rfl (oM · rfl) (rE ?_)))
 try dsimp only [w0,w1,w2,w3]
 rcases ifc h with ⟨hc10,h⟩ | ⟨hc10,h⟩
 ·obtain ⟨p11,hp11,h⟩ := bindo h
  obtain ⟨p12,hp12,h⟩ := bindo h
  refine q_cond_t rfl (.tmp rfl) hc10 (qQ rfl (qR rfl rfl (qN rfl (ok_store_s (v := (.bool true)) · sz4 (.tmp rfl) hp11 (.bool _) rfl hp12) (rE ?_))))
  try dsimp only [w0,w1,w2,w3]
  exact q_round_ret rfl h ⟨rfl,rfl⟩
 ·refine q_cond_f rfl (.tmp rfl) (bfalse hc10) (q_skipc rfl (hr_inBlock ?_))
  exact q_round_end h ⟨rfl,rfl⟩
def f (D : Dp) (H : Hd) (k : Nat) (x0 : HP) (x1 : Int) (x2 : Int) (S : HS) : Option ((Bool) × HS) :=
 (letv (HS.new S (.cells 1 [[(.int .i64 x2)]] true)) fun p1 =>
 (letv (HS.new p1 (.cells 1 [[(.bool false)]] true)) fun p2 =>
 ((rooms_Rooms_Of.f D H k x0 x1 p2).bind fun p3 =>
 ((D (Hd.set H (HS.next p3.2 + 1) fun vs T =>
 ((T.lp (HS.next p3.2 + 1)).bind fun u15 =>
 ((args1 vs).bind fun ar13 =>
 ((dP ar13).bind fun p14 =>
 (J0 D H k (HS.next p3.2 + 1) (some (HA.cell0 S.next)) (some (HA.cell0 p1.next)) p14 T))))) p3.1 [.fn (.yield (HS.next p3.2 + 1)) [] []] (HS.new (HS.new p3.2 .defer) (.loop .ready none))).bind fun p16 =>
 ((p16.2.finish (HS.next p3.2 + 1)).bind fun p17 =>
 ((pcode p17.1).bind fun n18 =>
 (if n18 = 0 then
 ((p17.2.sets (HA.cell0 p1.next) [(.bool false)]).bind fun p20 =>
 ((p20.leave (HS.next p3.2 :: [])).bind fun p21 =>
 ((p21.ldB (HA.cell0 p1.next)).bind fun p22 =>
 some (p22,p21)))) else
 (if n18 = 1 then
 ((p17.2.leave (HS.next p3.2 :: [])).bind fun p24 =>
 ((p24.ldB (HA.cell0 p1.next)).bind fun p25 =>
 some (p25,p24))) else
 none))))))))
theorem snd {x0 : HP} {x1 : Int} {x2 : Int} {S : HS} (hD : DS base W0 D) (hH : HT base W0 β0 H)  {p : (Bool) × HS} (h : f D H k x0 x1 x2 S = some p) : HCall Tryz.prog base W0 β0 18 [(.ptr x0),(.int .i64 x1),(.int .i64 x2)] S (fun v S1 => v = (.bool p.1) ∧ S1 = p.2) := by
 unfold f at h
 refine HCall.of_run at_.at_ body ?_
 show HR base W0 β0 18 none [.code c0] ⟨[(.ptr x0),(.int .i64 x1),(.int .i64 x2),τ,τ,τ,τ,τ,τ,τ,τ,τ,τ,τ,τ,τ,τ,τ,τ,τ,τ],[]⟩ S _
 obtain ⟨p1,hp1,h⟩ := leto h
 obtain ⟨p2,hp2,h⟩ := leto h
 refine qQ rfl (qR rfl rfl (qS 5 rfl (ok_box_e · (.tmp rfl) (Nat.zero_lt_succ _) rfl hp1) (qS 6 rfl (ok_alloc_e · zi4 zr4 (by decide) rfl hp2) (rE ?_))))
 try dsimp only [w0,w1,w2,w3]
 obtain ⟨p3,hp3,h⟩ := bindo h
 refine qQ rfl (qQ rfl (qR rfl rfl (qS 10 rfl (oM · rfl) (qS 11 rfl (oM · rfl) (q_call (dst := some 12) rfl (.func _) (.cons (.tmp rfl) (.cons (.tmp rfl) Evs.nil)) (HInv.static rooms_Rooms_Of.at_ rooms_Rooms_Of.body (rooms_Rooms_Of.snd hD hH hp3)) ?_)))))
 rintro _ _ ⟨rfl,rfl⟩
 refine rE ?_
 try dsimp only [w0,w1,w2,w3]
 obtain ⟨p16,hp16,h⟩ := bindo h
 obtain ⟨p17,hp17,h⟩ := bindo h
 obtain ⟨n18,hn18,h⟩ := bindo h
 refine q_block rfl ?_
 refine q_range (D := D) (H := H) rfl (.tmp rfl) hD hH hp16 hp17 ?_ ?_
 ·intro β1 hle hLA vs T u T' hr
  obtain ⟨u15,hu15,hr⟩ := bindo hr
  obtain ⟨ar13,har13,hr⟩ := bindo hr
  obtain ⟨p14,hp14,hr⟩ := bindo hr
  rw [args1_out har13]
  refine q_yield2 hLA hu15 rfl rfl ?_
  rw [dP_out hp14]
  simp only [HAct.params,List.set_cons_zero,List.set_cons_succ]
  exact J0_snd hD (hH.up hle) hr
 ·rcases ifc h with ⟨hc19,h⟩ | ⟨hc19,h⟩
  ·rw [pcode0 hn18 hc19]
   simp only [jumped_none,jumped_some]
   obtain ⟨p20,hp20,h⟩ := bindo h
   refine hr_inBlock (qQ rfl (qR rfl rfl (qN rfl (ok_store_s (v := (.bool false)) · sz4 (.tmp rfl) rfl (.bool _) rfl hp20) (rE ?_))))
   try dsimp only [w0,w1,w2,w3]
   obtain ⟨p21,hp21,h⟩ := bindo h
   obtain ⟨p22,hp22,h⟩ := bindo h
   cases h
   exact q_ret rfl at_.at_ hp21 (resL1 rfl (.cell rfl rfl sc4 (ldB_out hp22))) ⟨rfl,rfl⟩
  ·rcases ifc h with ⟨hc23,h⟩ | ⟨hc23,h⟩
   ·rw [pcode1 hn18 hc23]
    simp only [jumped_none,jumped_some]
    obtain ⟨p24,hp24,h⟩ := bindo h
    obtain ⟨p25,hp25,h⟩ := bindo h
    cases h
    exact q_ret rfl at_.at_ hp24 (resL1 rfl (.cell rfl rfl sc4 (ldB_out hp25))) ⟨rfl,rfl⟩
   ·cases h
end rooms_Rooms_Common
namespace rollcalllaw20_same
theorem at_ : FnAt Tryz.prog 35 Tryz.f35 := ⟨Tryz.func35,by kernel_rfl⟩
def d0 := (Tryz.f35.body).getD .skip
def r1 := kR (kA d0)
def r3 := kR (kA (kB d0))
def r5 := kR (kA (kB (kB d0)))
def d6 := kB (kB (kB d0))
def r8 := kR (kA (kA d6))
def r11 := kR (kA (kA (kB (kA d6))))
def r16 := kR (kA (kA (kB d6)))
def d17 := kB (kA (kB d6))
def r19 := kR (kA (kA d17))
def d21 := kA (kB (kA d17))
def r23 := kR (kA (kA d21))
def r26 := kR (kA (kA (kB (kA d21))))
def r30 := kR (kA (kB d21))
def d32 := kA (kB (kB d21))
def r33 := kR (kA d32)
def d36 := kA (kA (kB d32))
def r38 := kR (kA (kA d36))
def r45 := kR (kA (kA (kA (kB d36))))
def r46 := kR (kB (kA (kA (kB d36))))
def r47 := kR (kB (kB d36))
def r48 := kR (kB (kB (kB d21)))
def r50 := kR (kA (kB (kB d6)))
def c51 : Code := .ret
def c48 : Code := .region 15 r48 false
def c36 : Code := .seq (.seq (.region 11 r38 false) (.cond (.tmp 58) .skip (.exit 2))) (.seq (.block 3 (.seq (.region 13 r45 false) (.region 14 r46 true))) (.region 12 r47 false))
def c29 : Code := .seq (.region 9 r30 true) (.seq (.seq (.region 10 r33 false) (.block 2 (.loop c36))) c48)
def c24 : Code := .cond (.tmp 22) (.seq (.region 8 r26 false) .ret) .skip
def c20 : Code := .block 1 (.seq (.seq (.region 7 r23 false) c24) c29)
def c19 : Code := .region 6 r19 false
def c0 : Code := .seq (.region 0 r1 false) (.seq (.region 1 r3 false) (.seq (.region 2 r5 false) (.seq (.seq (.region 3 r8 false) (.cond (.tmp 12) (.seq (.region 4 r11 false) .ret) .skip)) (.seq (.seq (.region 5 r16 false) (.block 0 (.rangeFunc (.tmp 13) #[14] c19 c20))) (.seq (.region 16 r50 false) c51)))))
theorem body : Tryz.f35.body = some c0 := by kernel_rfl
def L2 (D : Dp) (H : Hd) (k : Nat) (l : Nat) : Nat → HP → HP → HP → HP → Int → HS → Option (HV × HS)
 | 0,_,_,_,_,_,_ => none
 | n + 1,y3,y5,y6,y7,y8,S =>
  (y3.bind fun p65 =>
  ((S.ldSl p65).bind fun p66 =>
  (y5.bind fun p67 =>
  ((S.ldI .i64 p67).bind fun p68 =>
  ((S.idx p66 p68 1).bind fun p69 =>
  ((S.ldP p69).bind fun p70 =>
  (p70.bind fun p71 =>
  ((S.ldSl (HA.fld p71 2)).bind fun p72 =>
  (if y8 < (Sl.len p72 : Int) then
  (y3.bind fun p74 =>
  ((S.ldSl p74).bind fun p75 =>
  (y5.bind fun p76 =>
  ((S.ldI .i64 p76).bind fun p77 =>
  ((S.idx p75 p77 1).bind fun p78 =>
  ((S.ldP p78).bind fun p79 =>
  (p79.bind fun p80 =>
  ((S.ldSl (HA.fld p80 2)).bind fun p81 =>
  ((S.idx p81 y8 3).bind fun p82 =>
  ((S.ldI .i64 (HA.fld p82 0)).bind fun p83 =>
  ((room_Room_Member.f D H k y7 p83 S).bind fun p84 =>
  (letv (HS.new p84.2 (.cells 3 [[(.int .i64 0),(.bool false),(.bool false)]] true)) fun p85 =>
  ((p85.sets (HA.cell0 p84.2.next) [(.int .i64 p84.1.1),(.bool p84.1.2.1),(.bool p84.1.2.2.1)]).bind fun p86 =>
  (y6.bind fun p87 =>
  ((p86.ldB p87).bind fun p88 =>
  (if p88 = true then
  (if p84.1.2.2.2 = true then
  ((p86.ldI .i64 (HA.fld (HA.cell0 p84.2.next) 0)).bind fun p91 =>
  ((p86.ldB (HA.fld (HA.cell0 p84.2.next) 1)).bind fun p92 =>
  ((p86.ldB (HA.fld (HA.cell0 p84.2.next) 2)).bind fun p93 =>
  (y3.bind fun p94 =>
  ((p86.ldSl p94).bind fun p95 =>
  (y5.bind fun p96 =>
  ((p86.ldI .i64 p96).bind fun p97 =>
  ((p86.idx p95 p97 1).bind fun p98 =>
  ((p86.ldP p98).bind fun p99 =>
  (p99.bind fun p100 =>
  ((p86.ldSl (HA.fld p100 2)).bind fun p101 =>
  ((p86.idx p101 y8 3).bind fun p102 =>
  ((p86.ldI .i64 (HA.fld p102 0)).bind fun p103 =>
  ((p86.ldB (HA.fld p102 1)).bind fun p104 =>
  ((p86.ldB (HA.fld p102 2)).bind fun p105 =>
  ((kSames [(.int .i64 p91),(.bool p92),(.bool p93)] [(.int .i64 p103),(.bool p104),(.bool p105)]).bind fun p106 =>
  (y6.bind fun p107 =>
  ((p86.sets p107 [(.bool (p106))]).bind fun p108 =>
  (L2 D H k l n) y3 y5 y6 y7 (w64 (y8 + 1)) p108)))))))))))))))))) else
  (y6.bind fun p109 =>
  ((p86.sets p109 [(.bool false)]).bind fun p110 =>
  (L2 D H k l n) y3 y5 y6 y7 (w64 (y8 + 1)) p110))) else
  (y6.bind fun p111 =>
  ((p86.sets p111 [(.bool false)]).bind fun p112 =>
  (L2 D H k l n) y3 y5 y6 y7 (w64 (y8 + 1)) p112)))))))))))))))))) else
  (y5.bind fun p113 =>
  ((S.ldI .i64 p113).bind fun p114 =>
  (y5.bind fun p115 =>
  ((S.sets p115 [(.int .i64 (w64 (p114 + 1)))]).bind fun p116 =>
  (HS.endr p116 l none))))))))))))))
theorem L2_snd {l : Nat} (hD : DS base W0 D) (hH : HT base W0 β0 H)  : ∀ {n : Nat} ⦃y3 : HP⦄ ⦃y5 : HP⦄ ⦃y6 : HP⦄ ⦃y7 : HP⦄ ⦃y8 : Int⦄ ⦃S : HS⦄ ⦃p : HV × HS⦄ ⦃Ga Gb Gc Ge Gj Gk Gl Gm Gn Go Gp Gq Gr Gs Gt Gu Gv Gw Gx Gy Gz Ka Kb Kc Kd Ke Kf Kg Kh Ki Kj Kk Kl Km Kn Ko Kp Kq Kr Ks Kt Ku Kv Kw Kx Ky Kz Ma Mb Mc Md Me Mf Mg Mh Mi Mj Mk Ml Mm Mn Mo Mp Mq Mr Ms Mt Mu Mv Mw Mx My Mz Na Nb Nc Nd Ne Nf Ng Nh Ni Nj Nk Nl Nm Nn No Np Nq Nr Ns Nt Nu Nv Nw Nx Ny Nz : HV⦄,L2 D H k l n y3 y5 y6 y7 y8 S = some p → HR base W0 β0 35 (some l) [.inLoop c36,.inBlock 2,.code c48,.inBlock 1] ⟨[Ga,Gb,Gc,(.ptr y3),Ge,(.ptr y5),(.ptr y6),(.ptr y7),(.int .i64 y8),Gj,Gk,Gl,Gm,Gn,Go,Gp,Gq,Gr,Gs,Gt,Gu,Gv,Gw,Gx,Gy,Gz,Ka,Kb,Kc,Kd,Ke,Kf,Kg,Kh,Ki,Kj,Kk,Kl,Km,Kn,Ko,Kp,Kq,Kr,Ks,Kt,Ku,Kv,Kw,Kx,Ky,Kz,Ma,Mb,Mc,Md,Me,Mf,Mg,Mh,Mi,Mj,Mk,Ml,Mm,Mn,Mo,Mp,Mq,Mr,Ms,Mt,Mu,Mv,Mw,Mx,My,Mz,Na,Nb,Nc,Nd,Ne,Nf,Ng,Nh,Ni,Nj,Nk,Nl,Nm,Nn,No,Np,Nq,Nr,Ns,Nt,Nu,Nv,Nw,Nx,Ny,Nz],[]⟩ S (fun v S1 => v = p.1 ∧ S1 = p.2) := by
 intro n
 induction n with
 | zero => intro _ _ _ _ _ _ _ _ _ _ _ _ _ _ _ _ _ _ _ _ _ _ _ _ _ _ _ _ _ _ _ _ _ _ _ _ _ _ _ _ _ _ _ _ _ _ _ _ _ _ _ _ _ _ _ _ _ _ _ _ _ _ _ _ _ _ _ _ _ _ _ _ _ _ _ _ _ _ _ _ _ _ _ _ _ _ _ _ _ _ _ _ _ _ _ _ _ _ _ _ _ _ _ _ _ _ h; cases h
 | succ n ih =>
  intro y3 y5 y6 y7 y8 S p Ga Gb Gc Ge Gj Gk Gl Gm Gn Go Gp Gq Gr Gs Gt Gu Gv Gw Gx Gy Gz Ka Kb Kc Kd Ke Kf Kg Kh Ki Kj Kk Kl Km Kn Ko Kp Kq Kr Ks Kt Ku Kv Kw Kx Ky Kz Ma Mb Mc Md Me Mf Mg Mh Mi Mj Mk Ml Mm Mn Mo Mp Mq Mr Ms Mt Mu Mv Mw Mx My Mz Na Nb Nc Nd Ne Nf Ng Nh Ni Nj Nk Nl Nm Nn No Np Nq Nr Ns Nt Nu Nv Nw Nx Ny Nz h
  simp only [L2] at h
  obtain ⟨p65,hp65,h⟩ := bindo h
  obtain ⟨p66,hp66,h⟩ := bindo h
  obtain ⟨p67,hp67,h⟩ := bindo h
  obtain ⟨p68,hp68,h⟩ := bindo h
  obtain ⟨p69,hp69,h⟩ := bindo h
  refine hr_inLoop (qQ rfl (qQ rfl (qR rfl rfl (qS 49 rfl (oM · rfl) (qS 50 rfl (oL · sc30 rfl hp65 (ldSl_out hp66)) (qS 51 rfl (oL · sc3 rfl hp67 (ldI_out hp68)) (qS 52 rfl (oX (s := p66) · tu30 sz39 rfl rfl hp69) ?_)))))))
  try dsimp only [w0,w1,w2,w3]
  obtain ⟨p70,hp70,h⟩ := bindo h
  obtain ⟨p71,hp71,h⟩ := bindo h
  obtain ⟨p72,hp72,h⟩ := bindo h
  refine qS 53 rfl (oL · sc39 rfl rfl (ldP_out hp70)) (qS 54 rfl (oN · rfl hp71) (qS 55 rfl (oF · fi89_2 (by decide) rfl rfl) (qS 56 rfl (oL · sc87 rfl rfl (ldSl_out hp72)) ?_)))
  try dsimp only [w0,w1,w2,w3]
  refine qS 57 rfl (ok_len_sl (q := Sl.a p72) (n := Sl.len p72) (z := Sl.cap p72) · rfl tu87 (.tmp rfl)) (qS 58 rfl (oB · rfl rfl rfl) (rE ?_))
  try dsimp only [w0,w1,w2,w3]
  rcases ifc h with ⟨hc73,h⟩ | ⟨hc73,h⟩
  ·obtain ⟨p74,hp74,h⟩ := bindo h
   obtain ⟨p75,hp75,h⟩ := bindo h
   obtain ⟨p76,hp76,h⟩ := bindo h
   obtain ⟨p77,hp77,h⟩ := bindo h
   obtain ⟨p78,hp78,h⟩ := bindo h
   refine q_cond_t rfl (.tmp rfl) (decide_eq_true hc73) (q_skipc rfl (qQ rfl (q_block rfl (qQ rfl (qR rfl rfl (qS 62 rfl (oM · rfl) (qS 63 rfl (oL · sc30 rfl hp74 (ldSl_out hp75)) (qS 64 rfl (oL · sc3 rfl hp76 (ldI_out hp77)) (qS 65 rfl (oX (s := p75) · tu30 sz39 rfl rfl hp78) ?_)))))))))
   try dsimp only [w0,w1,w2,w3]
   obtain ⟨p79,hp79,h⟩ := bindo h
   obtain ⟨p80,hp80,h⟩ := bindo h
   obtain ⟨p81,hp81,h⟩ := bindo h
   refine qS 66 rfl (oL · sc39 rfl rfl (ldP_out hp79)) (qS 67 rfl (oN · rfl hp80) (qS 68 rfl (oF · fi89_2 (by decide) rfl rfl) (qS 69 rfl (oL · sc87 rfl rfl (ldSl_out hp81)) ?_)))
   try dsimp only [w0,w1,w2,w3]
   obtain ⟨p82,hp82,h⟩ := bindo h
   obtain ⟨p83,hp83,h⟩ := bindo h
   refine qS 70 rfl (oM · rfl) (qS 71 rfl (oX (s := p81) · tu87 sz62 rfl rfl hp82) (qS 72 rfl (oF · fi62_0 (by decide) rfl rfl) (qS 73 rfl (oL · sc3 rfl rfl (ldI_out hp83)) ?_)))
   try dsimp only [w0,w1,w2,w3]
   obtain ⟨p84,hp84,h⟩ := bindo h
   refine q_call (dst := some 74) rfl (.func _) (.cons (.tmp rfl) (.cons (.tmp rfl) Evs.nil)) (HInv.static room_Room_Member.at_ room_Room_Member.body (room_Room_Member.snd hD hH hp84)) ?_
   rintro _ _ ⟨rfl,rfl⟩
   refine qS 61 rfl (oM · rfl) (qS 75 rfl (ok_extract · (.tmp rfl) rfl) (qS 76 rfl (ok_extract · (.tmp rfl) rfl) ?_))
   try dsimp only [w0,w1,w2,w3]
   obtain ⟨p85,hp85,h⟩ := leto h
   obtain ⟨p86,hp86,h⟩ := bindo h
   refine qS 9 rfl (ok_alloc_e · zi62 zr62 (by decide) rfl hp85) (qN rfl (ok_store_s (v := (.agg [(.int .i64 p84.1.1),(.bool p84.1.2.1),(.bool p84.1.2.2.1)])) · sz62 (.tmp rfl) rfl (.tmp rfl) rfl hp86) (qS 10 rfl (oA · rfl) (rE ?_)))
   try dsimp only [w0,w1,w2,w3]
   refine x_start (cls := [1,0,0,0,0,1,1,1,1,1,0,0,1,0,1,1,0,0,2]) (rk := [0,1,2,3,4,5,6,7,8,9,10,11,12,13,14,15,16,17,18]) rfl (by kernel_rfl) ?_
   obtain ⟨p87,hp87,h⟩ := bindo h
   obtain ⟨p88,hp88,h⟩ := bindo h
   refine yr 77 [6] rfl (oL · sc4 rfl hp87 (ldB_out hp88)) ?_
   refine yf 78 [77] rfl (oM · rfl) ?_
   rcases ifc h with ⟨hc89,h⟩ | ⟨hc89,h⟩
   ·refine yfg 79 78 [10,78] rfl hc89 (oM · rfl) ?_
    refine yf 80 [78,79] rfl (ok_pick_tt · (.tmp rfl) hc89 (.tmp rfl)) ?_
    try dsimp only [w0,w1,w2,w3]
    refine yf 81 [80] rfl (oM · rfl) ?_
    rcases ifc h with ⟨hc90,h⟩ | ⟨hc90,h⟩
    ·obtain ⟨p91,hp91,h⟩ := bindo h
     obtain ⟨p92,hp92,h⟩ := bindo h
     obtain ⟨p93,hp93,h⟩ := bindo h
     refine yrg 82 81 [9,81] rfl hc90 (ok_load_a (vs := [(.int .i64 p91),(.bool p92),(.bool p93)]) · ia62 (.tmp rfl) rfl ⟨ldI_out hp91,ldB_out hp92,ldB_out hp93,trivial⟩ (by simp)) ?_
     obtain ⟨p94,hp94,h⟩ := bindo h
     obtain ⟨p95,hp95,h⟩ := bindo h
     refine yrg 83 81 [3,81] rfl hc90 (oL · sc30 rfl hp94 (ldSl_out hp95)) ?_
     obtain ⟨p96,hp96,h⟩ := bindo h
     obtain ⟨p97,hp97,h⟩ := bindo h
     refine yrg 84 81 [5,81] rfl hc90 (oL · sc3 rfl hp96 (ldI_out hp97)) ?_
     try dsimp only [w0,w1,w2,w3]
     obtain ⟨p98,hp98,h⟩ := bindo h
     refine yrg 85 81 [83,84,81] rfl hc90 (oX (s := p95) · tu30 sz39 rfl rfl hp98) ?_
     obtain ⟨p99,hp99,h⟩ := bindo h
     refine yrg 86 81 [85,81] rfl hc90 (oL · sc39 rfl rfl (ldP_out hp99)) ?_
     obtain ⟨p100,hp100,h⟩ := bindo h
     refine yfg 87 81 [86,81] rfl hc90 (oN · rfl hp100) ?_
     refine yfg 88 81 [87,81] rfl hc90 (oF · fi89_2 (by decide) rfl rfl) ?_
     try dsimp only [w0,w1,w2,w3]
     obtain ⟨p101,hp101,h⟩ := bindo h
     refine yrg 89 81 [88,81] rfl hc90 (oL · sc87 rfl rfl (ldSl_out hp101)) ?_
     refine yfg 90 81 [8,81] rfl hc90 (oM · rfl) ?_
     obtain ⟨p102,hp102,h⟩ := bindo h
     refine yrg 91 81 [89,90,81] rfl hc90 (oX (s := p101) · tu87 sz62 rfl rfl hp102) ?_
     obtain ⟨p103,hp103,h⟩ := bindo h
     obtain ⟨p104,hp104,h⟩ := bindo h
     obtain ⟨p105,hp105,h⟩ := bindo h
     refine yrg 92 81 [91,81] rfl hc90 (ok_load_a (vs := [(.int .i64 p103),(.bool p104),(.bool p105)]) · ia62 (.tmp rfl) rfl ⟨ldI_out hp103,ldB_out hp104,ldB_out hp105,trivial⟩ (by simp)) ?_
     try dsimp only [w0,w1,w2,w3]
     obtain ⟨p106,hp106,h⟩ := bindo h
     refine yfg 93 81 [82,92,81] rfl hc90 (ok_agg_eq · sk62 eg62 rfl (.tmp rfl) (.tmp rfl) hp106 (.inl ⟨rfl,rfl⟩)) ?_
     refine yf 94 [81,93] rfl (ok_pick_tt · (.tmp rfl) hc90 (.tmp rfl)) ?_
     obtain ⟨p107,hp107,h⟩ := bindo h
     obtain ⟨p108,hp108,h⟩ := bindo h
     refine x_go (e_op (dst := none) (ts := [6,94]) rfl (by intro _ _ h; cases h) (by kernel_rfl) (fun _ ho => ok_store_s (v := (.bool (p106))) ho sz4 (.tmp rfl) hp107 (.tmp rfl) rfl hp108)) rfl ?_
     refine x_rest rfl ?_
     refine rE ?_
     try dsimp only [w0,w1,w2,w3]
     refine hr_inBlock (qR rfl rfl (qS 59 rfl (oM · rfl) (qS 60 rfl (oC · rfl rfl) (qS 8 rfl (oA · rfl) (rE ?_)))))
     try dsimp only [w0,w1,w2,w3]
     exact ih h
    ·refine yrs 82 81 [9,81] rfl (bfalse hc90) ?_
     refine yrs 83 81 [3,81] rfl (bfalse hc90) ?_
     refine yrs 84 81 [5,81] rfl (bfalse hc90) ?_
     try dsimp only [w0,w1,w2,w3]
     refine yrs 85 81 [83,84,81] rfl (bfalse hc90) ?_
     refine yrs 86 81 [85,81] rfl (bfalse hc90) ?_
     refine yfs 87 81 [86,81] rfl (bfalse hc90) ?_
     refine yfs 88 81 [87,81] rfl (bfalse hc90) ?_
     try dsimp only [w0,w1,w2,w3]
     refine yrs 89 81 [88,81] rfl (bfalse hc90) ?_
     refine yfs 90 81 [8,81] rfl (bfalse hc90) ?_
     refine yrs 91 81 [89,90,81] rfl (bfalse hc90) ?_
     refine yrs 92 81 [91,81] rfl (bfalse hc90) ?_
     try dsimp only [w0,w1,w2,w3]
     refine yfs 93 81 [82,92,81] rfl (bfalse hc90) ?_
     refine yf 94 [81,93] rfl (ok_pick_ff · (.tmp rfl) (bfalse hc90) (.bool _)) ?_
     obtain ⟨p109,hp109,h⟩ := bindo h
     obtain ⟨p110,hp110,h⟩ := bindo h
     refine x_go (e_op (dst := none) (ts := [6,94]) rfl (by intro _ _ h; cases h) (by kernel_rfl) (fun _ ho => ok_store_s (v := (.bool false)) ho sz4 (.tmp rfl) hp109 (.tmp rfl) rfl hp110)) rfl ?_
     refine x_rest rfl ?_
     refine rE ?_
     try dsimp only [w0,w1,w2,w3]
     refine hr_inBlock (qR rfl rfl (qS 59 rfl (oM · rfl) (qS 60 rfl (oC · rfl rfl) (qS 8 rfl (oA · rfl) (rE ?_)))))
     try dsimp only [w0,w1,w2,w3]
     exact ih h
   ·refine yfs 79 78 [10,78] rfl (bfalse hc89) ?_
    refine yf 80 [78,79] rfl (ok_pick_ff · (.tmp rfl) (bfalse hc89) (.bool _)) ?_
    try dsimp only [w0,w1,w2,w3]
    refine yf 81 [80] rfl (oM · rfl) ?_
    refine yrs 82 81 [9,81] rfl rfl ?_
    refine yrs 83 81 [3,81] rfl rfl ?_
    refine yrs 84 81 [5,81] rfl rfl ?_
    try dsimp only [w0,w1,w2,w3]
    refine yrs 85 81 [83,84,81] rfl rfl ?_
    refine yrs 86 81 [85,81] rfl rfl ?_
    refine yfs 87 81 [86,81] rfl rfl ?_
    refine yfs 88 81 [87,81] rfl rfl ?_
    try dsimp only [w0,w1,w2,w3]
    refine yrs 89 81 [88,81] rfl rfl ?_
    refine yfs 90 81 [8,81] rfl rfl ?_
    refine yrs 91 81 [89,90,81] rfl rfl ?_
    refine yrs 92 81 [91,81] rfl rfl ?_
    try dsimp only [w0,w1,w2,w3]
    refine yfs 93 81 [82,92,81] rfl rfl ?_
    refine yf 94 [81,93] rfl (ok_pick_ff · (.tmp rfl) rfl (.bool _)) ?_
    obtain ⟨p111,hp111,h⟩ := bindo h
    obtain ⟨p112,hp112,h⟩ := bindo h
    refine x_go (e_op (dst := none) (ts := [6,94]) rfl (by intro _ _ h; cases h) (by kernel_rfl) (fun _ ho => ok_store_s (v := (.bool false)) ho sz4 (.tmp rfl) hp111 (.tmp rfl) rfl hp112)) rfl ?_
    refine x_rest rfl ?_
    refine rE ?_
    try dsimp only [w0,w1,w2,w3]
    refine hr_inBlock (qR rfl rfl (qS 59 rfl (oM · rfl) (qS 60 rfl (oC · rfl rfl) (qS 8 rfl (oA · rfl) (rE ?_)))))
    try dsimp only [w0,w1,w2,w3]
    exact ih h
  ·obtain ⟨p113,hp113,h⟩ := bindo h
   obtain ⟨p114,hp114,h⟩ := bindo h
   obtain ⟨p115,hp115,h⟩ := bindo h
   obtain ⟨p116,hp116,h⟩ := bindo h
   refine q_cond_f rfl (.tmp rfl) (decide_eq_false hc73) (q_exit rfl rfl (qR rfl rfl (qS 95 rfl (oL · sc3 rfl hp113 (ldI_out hp114)) (qS 96 rfl (oC · rfl rfl) (qN rfl (ok_store_s (v := (.int .i64 (w64 (p114 + 1)))) · sz3 (.tmp rfl) hp115 (.tmp rfl) rfl hp116) (rE ?_))))))
   try dsimp only [w0,w1,w2,w3]
   refine hr_inBlock ?_
   exact q_round_end h ⟨rfl,rfl⟩
def J1 (D : Dp) (H : Hd) (k : Nat) (l : Nat) (y3 : HP) (y4 : HP) (y5 : HP) (y6 : HP) (y7 : HP) (y22 : Bool) (S : HS) : Option (HV × HS) :=
 (if y22 = true then
 (y4.bind fun p19 =>
 ((S.sets p19 [(.bool false)]).bind fun p20 =>
 (HS.endr p20 l (some .ret)))) else
 (y6.bind fun p21 =>
 ((S.ldB p21).bind fun p22 =>
 (if p22 = true then
 ((room_Room_Name.f y7 S).bind fun p24 =>
 (y3.bind fun p25 =>
 ((p24.2.ldSl p25).bind fun p26 =>
 ((S.ldSl p25).bind fun p27 =>
 (if p27 = p26 then
 (y5.bind fun p29 =>
 ((p24.2.ldI .i64 p29).bind fun p30 =>
 ((S.ldI .i64 p29).bind fun p31 =>
 (if p31 = p30 then
 ((p24.2.idx p26 p30 1).bind fun p33 =>
 ((S.idx p26 p30 1).bind fun p34 =>
 (if p34 = p33 then
 ((p24.2.ldP p33).bind fun p36 =>
 ((S.ldP p33).bind fun p37 =>
 (if p37 = p36 then
 (p36.bind fun p39 =>
 ((p24.2.ldS (HA.fld p39 0)).bind fun p40 =>
 ((S.ldS (HA.fld p39 0)).bind fun p41 =>
 (if p41 = p40 then
 (if p24.1 = p40 then
 ((room_Room_Len.f y7 p24.2).bind fun p44 =>
 (y3.bind fun p45 =>
 ((p44.2.ldSl p45).bind fun p46 =>
 ((p24.2.ldSl p45).bind fun p47 =>
 (if p47 = p46 then
 (y5.bind fun p49 =>
 ((p44.2.ldI .i64 p49).bind fun p50 =>
 ((p24.2.ldI .i64 p49).bind fun p51 =>
 (if p51 = p50 then
 ((p44.2.idx p46 p50 1).bind fun p53 =>
 ((p24.2.idx p46 p50 1).bind fun p54 =>
 (if p54 = p53 then
 ((p44.2.ldP p53).bind fun p56 =>
 ((p24.2.ldP p53).bind fun p57 =>
 (if p57 = p56 then
 (p56.bind fun p59 =>
 ((p44.2.ldSl (HA.fld p59 2)).bind fun p60 =>
 ((p24.2.ldSl (HA.fld p59 2)).bind fun p61 =>
 (if p61 = p60 then
 (y6.bind fun p63 =>
 ((p44.2.sets p63 [(.bool (decide (p44.1 = (Sl.len p60 : Int))))]).bind fun p64 =>
 L2 D H k l k y3 y5 y6 y7 0 p64)) else none)))) else none))) else none))) else none)))) else none))))) else
 (y6.bind fun p117 =>
 ((p24.2.sets p117 [(.bool false)]).bind fun p118 =>
 L2 D H k l k y3 y5 y6 y7 0 p118))) else none)))) else none))) else none))) else none)))) else none))))) else
 (y6.bind fun p119 =>
 ((S.sets p119 [(.bool false)]).bind fun p120 =>
 L2 D H k l k y3 y5 y6 y7 0 p120))))))
theorem J1_snd {l : Nat} (hD : DS base W0 D) (hH : HT base W0 β0 H)  {y3 : HP} {y4 : HP} {y5 : HP} {y6 : HP} {y7 : HP} {y22 : Bool} {S : HS} {p : HV × HS} (h : J1 D H k l y3 y4 y5 y6 y7 y22 S = some p) : HR base W0 β0 35 (some l) [.code c24,.code c29,.inBlock 1] ⟨[Ga,Gb,Gc,(.ptr y3),(.ptr y4),(.ptr y5),(.ptr y6),(.ptr y7),Gi,Gj,Gk,Gl,Gm,Gn,Go,Gp,Gq,Gr,Gs,Gt,Gu,Gv,(.bool y22),Gx,Gy,Gz,Ka,Kb,Kc,Kd,Ke,Kf,Kg,Kh,Ki,Kj,Kk,Kl,Km,Kn,Ko,Kp,Kq,Kr,Ks,Kt,Ku,Kv,Kw,Kx,Ky,Kz,Ma,Mb,Mc,Md,Me,Mf,Mg,Mh,Mi,Mj,Mk,Ml,Mm,Mn,Mo,Mp,Mq,Mr,Ms,Mt,Mu,Mv,Mw,Mx,My,Mz,Na,Nb,Nc,Nd,Ne,Nf,Ng,Nh,Ni,Nj,Nk,Nl,Nm,Nn,No,Np,Nq,Nr,Ns,Nt,Nu,Nv,Nw,Nx,Ny,Nz],[]⟩ S (fun v S1 => v = p.1 ∧ S1 = p.2) := by
 unfold J1 at h
 rcases ifc h with ⟨hc18,h⟩ | ⟨hc18,h⟩
 ·obtain ⟨p19,hp19,h⟩ := bindo h
  obtain ⟨p20,hp20,h⟩ := bindo h
  refine q_cond_t rfl (.tmp rfl) hc18 (qQ rfl (qR rfl rfl (qN rfl (ok_store_s (v := (.bool false)) · sz4 (.tmp rfl) hp19 (.bool _) rfl hp20) (rE ?_))))
  try dsimp only [w0,w1,w2,w3]
  exact q_round_ret rfl h ⟨rfl,rfl⟩
 ·refine q_cond_f rfl (.tmp rfl) (bfalse hc18) (q_skipc rfl (qQ rfl ?_))
  refine x_start (cls := [1,0,0,2,3,3,3,3,0,0,3,0,0,0,0,2,3,3,3,3,0,0,3,0,0,0,2]) (rk := [0,1,2,3,4,5,6,7,8,9,10,11,12,13,14,15,16,17,18,19,20,21,22,23,24,25,26]) rfl (by kernel_rfl) ?_
  obtain ⟨p21,hp21,h⟩ := bindo h
  obtain ⟨p22,hp22,h⟩ := bindo h
  refine xr 23 [6] rfl (oL · sc4 rfl hp21 (ldB_out hp22)) ?_
  refine xf 24 [23] rfl (oM · rfl) ?_
  rcases ifc h with ⟨hc23,h⟩ | ⟨hc23,h⟩
  ·refine xfg 25 24 [7,24] rfl hc23 (oM · rfl) ?_
   obtain ⟨p24,hp24,h⟩ := bindo h
   refine x_goE (e_call_g (dst := some 26) (t := 24) (ts := [25,24]) rfl (by kernel_rfl) rfl rfl hc23 (.func _) (.cons (.tmp rfl) Evs.nil) (HInv.static room_Room_Name.at_ room_Room_Name.body (room_Room_Name.snd  hp24))) rfl trivial ?_
   try dsimp only [w0,w1,w2,w3]
   obtain ⟨p25,hp25,h⟩ := bindo h
   obtain ⟨p26,hp26,h⟩ := bindo h
   obtain ⟨p27,hp27,h⟩ := bindo h
   obtain ⟨hg28,h⟩ := gd h
   refine x_late (r_op_g (dst := some 27) (t := 24) (ts := [3,24]) rfl (by intro _ _ h; cases h) (by kernel_rfl) rfl rfl hc23 (fun _ ho => ok_load_s ho sc30 (.tmp rfl) hp25 (ldSl_out hp26))) rfl ⟨.inr (l_op_g (dst := some 27) (t := 24) (ts := [3,24]) rfl (by intro _ _ h; cases h) (by kernel_rfl) rfl rfl hc23 (fun _ ho => ok_load_s ho sc30 (.tmp rfl) hp25 (ldSl_out (hp27.trans (congrArg some hg28))))),trivial⟩ ?_
   obtain ⟨p29,hp29,h⟩ := bindo h
   obtain ⟨p30,hp30,h⟩ := bindo h
   obtain ⟨p31,hp31,h⟩ := bindo h
   obtain ⟨hg32,h⟩ := gd h
   refine x_late (r_op_g (dst := some 28) (t := 24) (ts := [5,24]) rfl (by intro _ _ h; cases h) (by kernel_rfl) rfl rfl hc23 (fun _ ho => ok_load_s ho sc3 (.tmp rfl) hp29 (ldI_out hp30))) rfl ⟨.inr (l_op_g (dst := some 28) (t := 24) (ts := [5,24]) rfl (by intro _ _ h; cases h) (by kernel_rfl) rfl rfl hc23 (fun _ ho => ok_load_s ho sc3 (.tmp rfl) hp29 (ldI_out (hp31.trans (congrArg some hg32))))),trivial⟩ ?_
   obtain ⟨p33,hp33,h⟩ := bindo h
   obtain ⟨p34,hp34,h⟩ := bindo h
   obtain ⟨hg35,h⟩ := gd h
   refine x_late (r_op_g (dst := some 29) (t := 24) (ts := [27,28,24]) rfl (by intro _ _ h; cases h) (by kernel_rfl) rfl rfl hc23 (fun _ ho => ok_indexAddr (s := p26) ho tu30 sz39 (.tmp rfl) (.tmp rfl) hp33)) rfl ⟨.inr (l_op_g (dst := some 29) (t := 24) (ts := [27,28,24]) rfl (by intro _ _ h; cases h) (by kernel_rfl) rfl rfl hc23 (fun _ ho => ok_indexAddr (s := p26) ho tu30 sz39 (.tmp rfl) (.tmp rfl) (hp34.trans (congrArg some hg35)))),trivial⟩ ?_
   obtain ⟨p36,hp36,h⟩ := bindo h
   obtain ⟨p37,hp37,h⟩ := bindo h
   obtain ⟨hg38,h⟩ := gd h
   refine x_late (r_op_g (dst := some 30) (t := 24) (ts := [29,24]) rfl (by intro _ _ h; cases h) (by kernel_rfl) rfl rfl hc23 (fun _ ho => ok_load_s ho sc39 (.tmp rfl) rfl (ldP_out hp36))) rfl ⟨.inr (l_op_g (dst := some 30) (t := 24) (ts := [29,24]) rfl (by intro _ _ h; cases h) (by kernel_rfl) rfl rfl hc23 (fun _ ho => ok_load_s ho sc39 (.tmp rfl) rfl (ldP_out (hp37.trans (congrArg some hg38))))),trivial⟩ ?_
   try dsimp only [w0,w1,w2,w3]
   obtain ⟨p39,hp39,h⟩ := bindo h
   refine xfg 31 24 [30,24] rfl hc23 (oN · rfl hp39) ?_
   refine xfg 32 24 [31,24] rfl hc23 (oF · fi89_0 (by decide) rfl rfl) ?_
   obtain ⟨p40,hp40,h⟩ := bindo h
   obtain ⟨p41,hp41,h⟩ := bindo h
   obtain ⟨hg42,h⟩ := gd h
   refine x_late (r_op_g (dst := some 33) (t := 24) (ts := [32,24]) rfl (by intro _ _ h; cases h) (by kernel_rfl) rfl rfl hc23 (fun _ ho => ok_load_s ho sc9 (.tmp rfl) rfl (ldS_out hp40))) rfl ⟨.inr (l_op_g (dst := some 33) (t := 24) (ts := [32,24]) rfl (by intro _ _ h; cases h) (by kernel_rfl) rfl rfl hc23 (fun _ ho => ok_load_s ho sc9 (.tmp rfl) rfl (ldS_out (hp41.trans (congrArg some hg42))))),trivial⟩ ?_
   refine xfg 34 24 [26,33,24] rfl hc23 (ok_sbin · (.tmp rfl) (.tmp rfl) rfl) ?_
   try dsimp only [w0,w1,w2,w3]
   refine xf 35 [24,34] rfl (ok_pick_tt · (.tmp rfl) hc23 (.tmp rfl)) ?_
   refine xf 36 [35] rfl (oM · rfl) ?_
   rcases ifc h with ⟨hc43,h⟩ | ⟨hc43,h⟩
   ·refine xfg 37 36 [7,36] rfl (decide_eq_true hc43) (oM · rfl) ?_
    obtain ⟨p44,hp44,h⟩ := bindo h
    refine x_goE (e_call_g (dst := some 38) (t := 36) (ts := [37,36]) rfl (by kernel_rfl) rfl rfl (decide_eq_true hc43) (.func _) (.cons (.tmp rfl) Evs.nil) (HInv.static room_Room_Len.at_ room_Room_Len.body (room_Room_Len.snd  hp44))) rfl ⟨.inl (by kernel_rfl),.inl (by kernel_rfl),.inl (by kernel_rfl),.inl (by kernel_rfl),.inl (by kernel_rfl),trivial⟩ ?_
    try dsimp only [w0,w1,w2,w3]
    obtain ⟨p45,hp45,h⟩ := bindo h
    obtain ⟨p46,hp46,h⟩ := bindo h
    obtain ⟨p47,hp47,h⟩ := bindo h
    obtain ⟨hg48,h⟩ := gd h
    refine x_late (r_op_g (dst := some 39) (t := 36) (ts := [3,36]) rfl (by intro _ _ h; cases h) (by kernel_rfl) rfl rfl (decide_eq_true hc43) (fun _ ho => ok_load_s ho sc30 (.tmp rfl) hp45 (ldSl_out hp46))) rfl ⟨.inr (l_op_g (dst := some 39) (t := 36) (ts := [3,36]) rfl (by intro _ _ h; cases h) (by kernel_rfl) rfl rfl (decide_eq_true hc43) (fun _ ho => ok_load_s ho sc30 (.tmp rfl) hp45 (ldSl_out (hp47.trans (congrArg some hg48))))),.inl (by kernel_rfl),trivial⟩ ?_
    obtain ⟨p49,hp49,h⟩ := bindo h
    obtain ⟨p50,hp50,h⟩ := bindo h
    obtain ⟨p51,hp51,h⟩ := bindo h
    obtain ⟨hg52,h⟩ := gd h
    refine x_late (r_op_g (dst := some 40) (t := 36) (ts := [5,36]) rfl (by intro _ _ h; cases h) (by kernel_rfl) rfl rfl (decide_eq_true hc43) (fun _ ho => ok_load_s ho sc3 (.tmp rfl) hp49 (ldI_out hp50))) rfl ⟨.inr (l_op_g (dst := some 40) (t := 36) (ts := [5,36]) rfl (by intro _ _ h; cases h) (by kernel_rfl) rfl rfl (decide_eq_true hc43) (fun _ ho => ok_load_s ho sc3 (.tmp rfl) hp49 (ldI_out (hp51.trans (congrArg some hg52))))),.inl (by kernel_rfl),trivial⟩ ?_
    obtain ⟨p53,hp53,h⟩ := bindo h
    obtain ⟨p54,hp54,h⟩ := bindo h
    obtain ⟨hg55,h⟩ := gd h
    refine x_late (r_op_g (dst := some 41) (t := 36) (ts := [39,40,36]) rfl (by intro _ _ h; cases h) (by kernel_rfl) rfl rfl (decide_eq_true hc43) (fun _ ho => ok_indexAddr (s := p46) ho tu30 sz39 (.tmp rfl) (.tmp rfl) hp53)) rfl ⟨.inr (l_op_g (dst := some 41) (t := 36) (ts := [39,40,36]) rfl (by intro _ _ h; cases h) (by kernel_rfl) rfl rfl (decide_eq_true hc43) (fun _ ho => ok_indexAddr (s := p46) ho tu30 sz39 (.tmp rfl) (.tmp rfl) (hp54.trans (congrArg some hg55)))),.inl (by kernel_rfl),trivial⟩ ?_
    obtain ⟨p56,hp56,h⟩ := bindo h
    obtain ⟨p57,hp57,h⟩ := bindo h
    obtain ⟨hg58,h⟩ := gd h
    refine x_late (r_op_g (dst := some 42) (t := 36) (ts := [41,36]) rfl (by intro _ _ h; cases h) (by kernel_rfl) rfl rfl (decide_eq_true hc43) (fun _ ho => ok_load_s ho sc39 (.tmp rfl) rfl (ldP_out hp56))) rfl ⟨.inr (l_op_g (dst := some 42) (t := 36) (ts := [41,36]) rfl (by intro _ _ h; cases h) (by kernel_rfl) rfl rfl (decide_eq_true hc43) (fun _ ho => ok_load_s ho sc39 (.tmp rfl) rfl (ldP_out (hp57.trans (congrArg some hg58))))),.inl (by kernel_rfl),trivial⟩ ?_
    try dsimp only [w0,w1,w2,w3]
    obtain ⟨p59,hp59,h⟩ := bindo h
    refine xfg 43 36 [42,36] rfl (decide_eq_true hc43) (oN · rfl hp59) ?_
    refine xfg 44 36 [43,36] rfl (decide_eq_true hc43) (oF · fi89_2 (by decide) rfl rfl) ?_
    obtain ⟨p60,hp60,h⟩ := bindo h
    obtain ⟨p61,hp61,h⟩ := bindo h
    obtain ⟨hg62,h⟩ := gd h
    refine x_late (r_op_g (dst := some 45) (t := 36) (ts := [44,36]) rfl (by intro _ _ h; cases h) (by kernel_rfl) rfl rfl (decide_eq_true hc43) (fun _ ho => ok_load_s ho sc87 (.tmp rfl) rfl (ldSl_out hp60))) rfl ⟨.inr (l_op_g (dst := some 45) (t := 36) (ts := [44,36]) rfl (by intro _ _ h; cases h) (by kernel_rfl) rfl rfl (decide_eq_true hc43) (fun _ ho => ok_load_s ho sc87 (.tmp rfl) rfl (ldSl_out (hp61.trans (congrArg some hg62))))),.inl (by kernel_rfl),trivial⟩ ?_
    refine xfg 46 36 [45,36] rfl (decide_eq_true hc43) (ok_len_sl (q := Sl.a p60) (n := Sl.len p60) (z := Sl.cap p60) · rfl tu87 (.tmp rfl)) ?_
    try dsimp only [w0,w1,w2,w3]
    refine xfg 47 36 [38,46,36] rfl (decide_eq_true hc43) (oB · rfl rfl rfl) ?_
    refine xf 48 [36,47] rfl (ok_pick_tt · (.tmp rfl) (decide_eq_true hc43) (.tmp rfl)) ?_
    obtain ⟨p63,hp63,h⟩ := bindo h
    obtain ⟨p64,hp64,h⟩ := bindo h
    refine x_goE (e_op (dst := none) (ts := [6,48]) rfl (by intro _ _ h; cases h) (by kernel_rfl) (fun _ ho => ok_store_s (v := (.bool (decide (p44.1 = (Sl.len p60 : Int))))) ho sz4 (.tmp rfl) hp63 (.tmp rfl) rfl hp64)) rfl ⟨.inl (by kernel_rfl),.inl (by kernel_rfl),.inl (by kernel_rfl),.inl (by kernel_rfl),.inl (by kernel_rfl),.inl (by kernel_rfl),.inl (by kernel_rfl),.inl (by kernel_rfl),.inl (by kernel_rfl),.inl (by kernel_rfl),trivial⟩ ?_
    refine x_rest rfl ?_
    refine rE ?_
    try dsimp only [w0,w1,w2,w3]
    refine qQ rfl (qQ rfl (qR rfl rfl (qS 8 rfl (ok_assign · (.int _ _)) (rE ?_))))
    try dsimp only [w0,w1,w2,w3]
    refine q_block rfl (q_loop rfl ?_)
    try dsimp only [w0,w1,w2,w3]
    exact L2_snd hD hH h
   ·refine xfs 37 36 [7,36] rfl (decide_eq_false hc43) ?_
    refine zes 38 36 [37,36] rfl (decide_eq_false hc43) ⟨.inl (by kernel_rfl),.inl (by kernel_rfl),.inl (by kernel_rfl),.inl (by kernel_rfl),.inl (by kernel_rfl),trivial⟩ ?_
    try dsimp only [w0,w1,w2,w3]
    refine x_late (r_skip (dst := some 39) (t := 36) (ts := [3,36]) rfl (by kernel_rfl) rfl rfl (decide_eq_false hc43)) rfl ⟨.inr (l_skip (dst := some 39) (t := 36) (ts := [3,36]) rfl (by kernel_rfl) rfl rfl (decide_eq_false hc43)),.inl (by kernel_rfl),trivial⟩ ?_
    refine x_late (r_skip (dst := some 40) (t := 36) (ts := [5,36]) rfl (by kernel_rfl) rfl rfl (decide_eq_false hc43)) rfl ⟨.inr (l_skip (dst := some 40) (t := 36) (ts := [5,36]) rfl (by kernel_rfl) rfl rfl (decide_eq_false hc43)),.inl (by kernel_rfl),trivial⟩ ?_
    refine x_late (r_skip (dst := some 41) (t := 36) (ts := [39,40,36]) rfl (by kernel_rfl) rfl rfl (decide_eq_false hc43)) rfl ⟨.inr (l_skip (dst := some 41) (t := 36) (ts := [39,40,36]) rfl (by kernel_rfl) rfl rfl (decide_eq_false hc43)),.inl (by kernel_rfl),trivial⟩ ?_
    refine x_late (r_skip (dst := some 42) (t := 36) (ts := [41,36]) rfl (by kernel_rfl) rfl rfl (decide_eq_false hc43)) rfl ⟨.inr (l_skip (dst := some 42) (t := 36) (ts := [41,36]) rfl (by kernel_rfl) rfl rfl (decide_eq_false hc43)),.inl (by kernel_rfl),trivial⟩ ?_
    try dsimp only [w0,w1,w2,w3]
    refine xfs 43 36 [42,36] rfl (decide_eq_false hc43) ?_
    refine xfs 44 36 [43,36] rfl (decide_eq_false hc43) ?_
    refine x_late (r_skip (dst := some 45) (t := 36) (ts := [44,36]) rfl (by kernel_rfl) rfl rfl (decide_eq_false hc43)) rfl ⟨.inr (l_skip (dst := some 45) (t := 36) (ts := [44,36]) rfl (by kernel_rfl) rfl rfl (decide_eq_false hc43)),.inl (by kernel_rfl),trivial⟩ ?_
    refine xfs 46 36 [45,36] rfl (decide_eq_false hc43) ?_
    try dsimp only [w0,w1,w2,w3]
    refine xfs 47 36 [38,46,36] rfl (decide_eq_false hc43) ?_
    refine xf 48 [36,47] rfl (ok_pick_ff · (.tmp rfl) (decide_eq_false hc43) (.bool _)) ?_
    obtain ⟨p117,hp117,h⟩ := bindo h
    obtain ⟨p118,hp118,h⟩ := bindo h
    refine x_goE (e_op (dst := none) (ts := [6,48]) rfl (by intro _ _ h; cases h) (by kernel_rfl) (fun _ ho => ok_store_s (v := (.bool false)) ho sz4 (.tmp rfl) hp117 (.tmp rfl) rfl hp118)) rfl ⟨.inl (by kernel_rfl),.inl (by kernel_rfl),.inl (by kernel_rfl),.inl (by kernel_rfl),.inl (by kernel_rfl),.inl (by kernel_rfl),.inl (by kernel_rfl),.inl (by kernel_rfl),.inl (by kernel_rfl),.inl (by kernel_rfl),trivial⟩ ?_
    refine x_rest rfl ?_
    refine rE ?_
    try dsimp only [w0,w1,w2,w3]
    refine qQ rfl (qQ rfl (qR rfl rfl (qS 8 rfl (ok_assign · (.int _ _)) (rE ?_))))
    try dsimp only [w0,w1,w2,w3]
    refine q_block rfl (q_loop rfl ?_)
    try dsimp only [w0,w1,w2,w3]
    exact L2_snd hD hH h
  ·refine xfs 25 24 [7,24] rfl (bfalse hc23) ?_
   refine zes 26 24 [25,24] rfl (bfalse hc23) trivial ?_
   try dsimp only [w0,w1,w2,w3]
   refine x_late (r_skip (dst := some 27) (t := 24) (ts := [3,24]) rfl (by kernel_rfl) rfl rfl (bfalse hc23)) rfl ⟨.inr (l_skip (dst := some 27) (t := 24) (ts := [3,24]) rfl (by kernel_rfl) rfl rfl (bfalse hc23)),trivial⟩ ?_
   refine x_late (r_skip (dst := some 28) (t := 24) (ts := [5,24]) rfl (by kernel_rfl) rfl rfl (bfalse hc23)) rfl ⟨.inr (l_skip (dst := some 28) (t := 24) (ts := [5,24]) rfl (by kernel_rfl) rfl rfl (bfalse hc23)),trivial⟩ ?_
   refine x_late (r_skip (dst := some 29) (t := 24) (ts := [27,28,24]) rfl (by kernel_rfl) rfl rfl (bfalse hc23)) rfl ⟨.inr (l_skip (dst := some 29) (t := 24) (ts := [27,28,24]) rfl (by kernel_rfl) rfl rfl (bfalse hc23)),trivial⟩ ?_
   refine x_late (r_skip (dst := some 30) (t := 24) (ts := [29,24]) rfl (by kernel_rfl) rfl rfl (bfalse hc23)) rfl ⟨.inr (l_skip (dst := some 30) (t := 24) (ts := [29,24]) rfl (by kernel_rfl) rfl rfl (bfalse hc23)),trivial⟩ ?_
   try dsimp only [w0,w1,w2,w3]
   refine xfs 31 24 [30,24] rfl (bfalse hc23) ?_
   refine xfs 32 24 [31,24] rfl (bfalse hc23) ?_
   refine x_late (r_skip (dst := some 33) (t := 24) (ts := [32,24]) rfl (by kernel_rfl) rfl rfl (bfalse hc23)) rfl ⟨.inr (l_skip (dst := some 33) (t := 24) (ts := [32,24]) rfl (by kernel_rfl) rfl rfl (bfalse hc23)),trivial⟩ ?_
   refine xfs 34 24 [26,33,24] rfl (bfalse hc23) ?_
   try dsimp only [w0,w1,w2,w3]
   refine xf 35 [24,34] rfl (ok_pick_ff · (.tmp rfl) (bfalse hc23) (.bool _)) ?_
   refine xf 36 [35] rfl (oM · rfl) ?_
   refine xfs 37 36 [7,36] rfl rfl ?_
   refine zes 38 36 [37,36] rfl rfl ⟨.inl (by kernel_rfl),.inl (by kernel_rfl),.inl (by kernel_rfl),.inl (by kernel_rfl),.inl (by kernel_rfl),trivial⟩ ?_
   try dsimp only [w0,w1,w2,w3]
   refine x_late (r_skip (dst := some 39) (t := 36) (ts := [3,36]) rfl (by kernel_rfl) rfl rfl rfl) rfl ⟨.inr (l_skip (dst := some 39) (t := 36) (ts := [3,36]) rfl (by kernel_rfl) rfl rfl rfl),.inl (by kernel_rfl),trivial⟩ ?_
   refine x_late (r_skip (dst := some 40) (t := 36) (ts := [5,36]) rfl (by kernel_rfl) rfl rfl rfl) rfl ⟨.inr (l_skip (dst := some 40) (t := 36) (ts := [5,36]) rfl (by kernel_rfl) rfl rfl rfl),.inl (by kernel_rfl),trivial⟩ ?_
   refine x_late (r_skip (dst := some 41) (t := 36) (ts := [39,40,36]) rfl (by kernel_rfl) rfl rfl rfl) rfl ⟨.inr (l_skip (dst := some 41) (t := 36) (ts := [39,40,36]) rfl (by kernel_rfl) rfl rfl rfl),.inl (by kernel_rfl),trivial⟩ ?_
   refine x_late (r_skip (dst := some 42) (t := 36) (ts := [41,36]) rfl (by kernel_rfl) rfl rfl rfl) rfl ⟨.inr (l_skip (dst := some 42) (t := 36) (ts := [41,36]) rfl (by kernel_rfl) rfl rfl rfl),.inl (by kernel_rfl),trivial⟩ ?_
   try dsimp only [w0,w1,w2,w3]
   refine xfs 43 36 [42,36] rfl rfl ?_
   refine xfs 44 36 [43,36] rfl rfl ?_
   refine x_late (r_skip (dst := some 45) (t := 36) (ts := [44,36]) rfl (by kernel_rfl) rfl rfl rfl) rfl ⟨.inr (l_skip (dst := some 45) (t := 36) (ts := [44,36]) rfl (by kernel_rfl) rfl rfl rfl),.inl (by kernel_rfl),trivial⟩ ?_
   refine xfs 46 36 [45,36] rfl rfl ?_
   try dsimp only [w0,w1,w2,w3]
   refine xfs 47 36 [38,46,36] rfl rfl ?_
   refine xf 48 [36,47] rfl (ok_pick_ff · (.tmp rfl) rfl (.bool _)) ?_
   obtain ⟨p119,hp119,h⟩ := bindo h
   obtain ⟨p120,hp120,h⟩ := bindo h
   refine x_goE (e_op (dst := none) (ts := [6,48]) rfl (by intro _ _ h; cases h) (by kernel_rfl) (fun _ ho => ok_store_s (v := (.bool false)) ho sz4 (.tmp rfl) hp119 (.tmp rfl) rfl hp120)) rfl ⟨.inl (by kernel_rfl),.inl (by kernel_rfl),.inl (by kernel_rfl),.inl (by kernel_rfl),.inl (by kernel_rfl),.inl (by kernel_rfl),.inl (by kernel_rfl),.inl (by kernel_rfl),.inl (by kernel_rfl),.inl (by kernel_rfl),trivial⟩ ?_
   refine x_rest rfl ?_
   refine rE ?_
   try dsimp only [w0,w1,w2,w3]
   refine qQ rfl (qQ rfl (qR rfl rfl (qS 8 rfl (ok_assign · (.int _ _)) (rE ?_))))
   try dsimp only [w0,w1,w2,w3]
   refine q_block rfl (q_loop rfl ?_)
   try dsimp only [w0,w1,w2,w3]
   exact L2_snd hD hH h
def J0 (D : Dp) (H : Hd) (k : Nat) (l : Nat) (y3 : HP) (y4 : HP) (y5 : HP) (y6 : HP) (y14 : HP) (S : HS) : Option (HV × HS) :=
 ((S.begin_ l).bind fun p12 =>
 (y5.bind fun p13 =>
 ((p12.ldI .i64 p13).bind fun p14 =>
 (y3.bind fun p15 =>
 ((p12.ldSl p15).bind fun p16 =>
 (if p14 ≥ (Sl.len p16 : Int) then
 J1 D H k l y3 y4 y5 y6 y14 true p12 else
 J1 D H k l y3 y4 y5 y6 y14 (Option.isNone y14) p12))))))
theorem J0_snd {l : Nat} (hD : DS base W0 D) (hH : HT base W0 β0 H)  {y3 : HP} {y4 : HP} {y5 : HP} {y6 : HP} {y14 : HP} {S : HS} {p : HV × HS} (h : J0 D H k l y3 y4 y5 y6 y14 S = some p) : HR base W0 β0 35 (some l) [.code c19,.beginRound,.code c20] ⟨[Ga,Gb,Gc,(.ptr y3),(.ptr y4),(.ptr y5),(.ptr y6),Gh,Gi,Gj,Gk,Gl,Gm,Gn,(.ptr y14),Gp,Gq,Gr,Gs,Gt,Gu,Gv,Gw,Gx,Gy,Gz,Ka,Kb,Kc,Kd,Ke,Kf,Kg,Kh,Ki,Kj,Kk,Kl,Km,Kn,Ko,Kp,Kq,Kr,Ks,Kt,Ku,Kv,Kw,Kx,Ky,Kz,Ma,Mb,Mc,Md,Me,Mf,Mg,Mh,Mi,Mj,Mk,Ml,Mm,Mn,Mo,Mp,Mq,Mr,Ms,Mt,Mu,Mv,Mw,Mx,My,Mz,Na,Nb,Nc,Nd,Ne,Nf,Ng,Nh,Ni,Nj,Nk,Nl,Nm,Nn,No,Np,Nq,Nr,Ns,Nt,Nu,Nv,Nw,Nx,Ny,Nz],[]⟩ S (fun v S1 => v = p.1 ∧ S1 = p.2) := by
 unfold J0 at h
 refine qR rfl rfl (qS 7 rfl (oA · rfl) (rE ?_))
 try dsimp only [w0,w1,w2,w3]
 obtain ⟨p12,hp12,h⟩ := bindo h
 refine q_begin hp12 ?_
 obtain ⟨p13,hp13,h⟩ := bindo h
 obtain ⟨p14,hp14,h⟩ := bindo h
 obtain ⟨p15,hp15,h⟩ := bindo h
 obtain ⟨p16,hp16,h⟩ := bindo h
 refine q_block rfl (qQ rfl (qQ rfl (qR rfl rfl (qS 15 rfl (oL · sc3 rfl hp13 (ldI_out hp14)) (qS 16 rfl (oL · sc30 rfl hp15 (ldSl_out hp16)) (qS 17 rfl (ok_len_sl (q := Sl.a p16) (n := Sl.len p16) (z := Sl.cap p16) · rfl tu30 (.tmp rfl)) (qS 18 rfl (oB · rfl rfl rfl) ?_)))))))
 try dsimp only [w0,w1,w2,w3]
 refine qS 19 rfl (oM · rfl) ?_
 rcases ifc h with ⟨hc17,h⟩ | ⟨hc17,h⟩
 ·refine q_skip (dst := some 20) (t := 19) rfl rfl rfl (decide_eq_true hc17) (q_skip (dst := some 21) (t := 19) rfl rfl rfl (decide_eq_true hc17) (qS 22 rfl (ok_pick_tt · (.tmp rfl) (decide_eq_true hc17) (.bool _)) (rE ?_)))
  try dsimp only [w0,w1,w2,w3]
  exact J1_snd hD hH h
 ·refine qG 19 20 rfl (decide_eq_false hc17) (oM · rfl) (qG 19 21 rfl (decide_eq_false hc17) (ok_nil_ptr · tu36 (.tmp rfl) (.inl ⟨rfl,rfl⟩)) (qS 22 rfl (ok_pick_ff · (.tmp rfl) (decide_eq_false hc17) (.tmp rfl)) (rE ?_)))
  try dsimp only [w0,w1,w2,w3]
  exact J1_snd hD hH h
def J3 (D : Dp) (H : Hd) (k : Nat) (y4 : HP) (y103 : Bool) (ds : List Nat) (S : HS) : Option ((Bool) × HS) :=
 (y4.bind fun p132 =>
 ((S.sets p132 [(.bool y103)]).bind fun p133 =>
 ((p133.leave ds).bind fun p134 =>
 (y4.bind fun p135 =>
 ((p134.ldB p135).bind fun p136 =>
 some (p136,p134))))))
theorem J3_snd (hD : DS base W0 D) (hH : HT base W0 β0 H)  {y4 : HP} {y103 : Bool} {ds : List Nat} {S : HS} {p : (Bool) × HS} (h : J3 D H k y4 y103 ds S = some p) : HR base W0 β0 35 none [.inRegion r50 [7],.code c51] ⟨[Ga,Gb,Gc,Gd,(.ptr y4),Gf,Gg,Gh,Gi,Gj,Gk,Gl,Gm,Gn,Go,Gp,Gq,Gr,Gs,Gt,Gu,Gv,Gw,Gx,Gy,Gz,Ka,Kb,Kc,Kd,Ke,Kf,Kg,Kh,Ki,Kj,Kk,Kl,Km,Kn,Ko,Kp,Kq,Kr,Ks,Kt,Ku,Kv,Kw,Kx,Ky,Kz,Ma,Mb,Mc,Md,Me,Mf,Mg,Mh,Mi,Mj,Mk,Ml,Mm,Mn,Mo,Mp,Mq,Mr,Ms,Mt,Mu,Mv,Mw,Mx,My,Mz,Na,Nb,Nc,Nd,Ne,Nf,Ng,Nh,Ni,Nj,Nk,Nl,Nm,Nn,No,Np,Nq,Nr,Ns,Nt,Nu,Nv,Nw,Nx,Ny,(.bool y103)],ds⟩ S (fun v S1 => v = (.bool p.1) ∧ S1 = p.2) := by
 unfold J3 at h
 obtain ⟨p132,hp132,h⟩ := bindo h
 obtain ⟨p133,hp133,h⟩ := bindo h
 refine qN rfl (ok_store_s (v := (.bool y103)) · sz4 (.tmp rfl) hp132 (.tmp rfl) rfl hp133) (rE ?_)
 try dsimp only [w0,w1,w2,w3]
 obtain ⟨p134,hp134,h⟩ := bindo h
 obtain ⟨p135,hp135,h⟩ := bindo h
 obtain ⟨p136,hp136,h⟩ := bindo h
 cases h
 exact q_ret rfl at_.at_ hp134 (resL1 rfl (.cell rfl hp135 sc4 (ldB_out hp136))) ⟨rfl,rfl⟩
def f (D : Dp) (H : Hd) (k : Nat) (x0 : HV) (x1 : Sl) (S : HS) : Option ((Bool) × HS) :=
 (letv (HS.new S (.cells 1 [[(Sl.hv x1)]] true)) fun p1 =>
 (letv (HS.new p1 (.cells 1 [[(.bool false)]] true)) fun p2 =>
 (letv (HS.new p2 (.cells 1 [[(.int .i64 0)]] true)) fun p3 =>
 ((p3.sets (HA.cell0 p2.next) [(.int .i64 0)]).bind fun p4 =>
 (letv (HS.new p4 (.cells 1 [[(.bool false)]] true)) fun p5 =>
 ((p5.sets (HA.cell0 p4.next) [(.bool true)]).bind fun p6 =>
 ((HV.isNilFn x0).bind fun p7 =>
 (if (p7) = true then
 ((p6.sets (HA.cell0 p1.next) [(.bool false)]).bind fun p9 =>
 ((p9.leave []).bind fun p10 =>
 ((p10.ldB (HA.cell0 p1.next)).bind fun p11 =>
 some (p11,p10)))) else
 ((D (Hd.set H (HS.next p6 + 1) fun vs T =>
 ((T.lp (HS.next p6 + 1)).bind fun u123 =>
 ((args1 vs).bind fun ar121 =>
 ((dP ar121).bind fun p122 =>
 (J0 D H k (HS.next p6 + 1) (some (HA.cell0 S.next)) (some (HA.cell0 p1.next)) (some (HA.cell0 p2.next)) (some (HA.cell0 p4.next)) p122 T))))) x0 [.fn (.yield (HS.next p6 + 1)) [] []] (HS.new (HS.new p6 .defer) (.loop .ready none))).bind fun p124 =>
 ((p124.2.finish (HS.next p6 + 1)).bind fun p125 =>
 ((pcode p125.1).bind fun n126 =>
 (if n126 = 0 then
 ((p125.2.ldB (HA.cell0 p4.next)).bind fun p128 =>
 (if p128 = true then
 ((p125.2.ldI .i64 (HA.cell0 p2.next)).bind fun p130 =>
 ((p125.2.ldSl (HA.cell0 S.next)).bind fun p131 =>
 J3 D H k (some (HA.cell0 p1.next)) (decide (p130 = (Sl.len p131 : Int))) (HS.next p6 :: []) p125.2)) else
 J3 D H k (some (HA.cell0 p1.next)) false (HS.next p6 :: []) p125.2)) else
 (if n126 = 1 then
 ((p125.2.leave (HS.next p6 :: [])).bind fun p138 =>
 ((p138.ldB (HA.cell0 p1.next)).bind fun p139 =>
 some (p139,p138))) else
 none)))))))))))))
theorem snd {x0 : HV} {x1 : Sl} {S : HS} (hD : DS base W0 D) (hH : HT base W0 β0 H)  {p : (Bool) × HS} (h : f D H k x0 x1 S = some p) : HCall Tryz.prog base W0 β0 35 [x0,(Sl.hv x1)] S (fun v S1 => v = (.bool p.1) ∧ S1 = p.2) := by
 unfold f at h
 refine HCall.of_run at_.at_ body ?_
 show HR base W0 β0 35 none [.code c0] ⟨[x0,(Sl.hv x1),τ,τ,τ,τ,τ,τ,τ,τ,τ,τ,τ,τ,τ,τ,τ,τ,τ,τ,τ,τ,τ,τ,τ,τ,τ,τ,τ,τ,τ,τ,τ,τ,τ,τ,τ,τ,τ,τ,τ,τ,τ,τ,τ,τ,τ,τ,τ,τ,τ,τ,τ,τ,τ,τ,τ,τ,τ,τ,τ,τ,τ,τ,τ,τ,τ,τ,τ,τ,τ,τ,τ,τ,τ,τ,τ,τ,τ,τ,τ,τ,τ,τ,τ,τ,τ,τ,τ,τ,τ,τ,τ,τ,τ,τ,τ,τ,τ,τ,τ,τ,τ,τ],[]⟩ S _
 obtain ⟨p1,hp1,h⟩ := leto h
 obtain ⟨p2,hp2,h⟩ := leto h
 refine qQ rfl (qR rfl rfl (qS 3 rfl (ok_box_e · (.tmp rfl) (Nat.zero_lt_succ _) rfl hp1) (qS 4 rfl (ok_alloc_e · zi4 zr4 (by decide) rfl hp2) (rE ?_))))
 try dsimp only [w0,w1,w2,w3]
 obtain ⟨p3,hp3,h⟩ := leto h
 obtain ⟨p4,hp4,h⟩ := bindo h
 refine qQ rfl (qR rfl rfl (qS 5 rfl (ok_alloc_e · zi3 zr3 (by decide) rfl hp3) (qN rfl (ok_store_s (v := (.int .i64 0)) · sz3 (.tmp rfl) rfl (.int _ _) rfl hp4) (rE ?_))))
 try dsimp only [w0,w1,w2,w3]
 obtain ⟨p5,hp5,h⟩ := leto h
 obtain ⟨p6,hp6,h⟩ := bindo h
 refine qQ rfl (qR rfl rfl (qS 6 rfl (ok_alloc_e · zi4 zr4 (by decide) rfl hp5) (qN rfl (ok_store_s (v := (.bool true)) · sz4 (.tmp rfl) rfl (.bool _) rfl hp6) (rE ?_))))
 try dsimp only [w0,w1,w2,w3]
 obtain ⟨p7,hp7,h⟩ := bindo h
 refine qQ rfl (qQ rfl (qR rfl rfl (qS 11 rfl (oM · rfl) (qS 12 rfl (ok_nil_fn · tu54 (.tmp rfl) hp7 (.inl ⟨rfl,rfl⟩)) (rE ?_)))))
 try dsimp only [w0,w1,w2,w3]
 rcases ifc h with ⟨hc8,h⟩ | ⟨hc8,h⟩
 ·obtain ⟨p9,hp9,h⟩ := bindo h
  refine q_cond_t rfl (.tmp rfl) hc8 (qQ rfl (qR rfl rfl (qN rfl (ok_store_s (v := (.bool false)) · sz4 (.tmp rfl) rfl (.bool _) rfl hp9) (rE ?_))))
  try dsimp only [w0,w1,w2,w3]
  obtain ⟨p10,hp10,h⟩ := bindo h
  obtain ⟨p11,hp11,h⟩ := bindo h
  cases h
  exact q_ret rfl at_.at_ hp10 (resL1 rfl (.cell rfl rfl sc4 (ldB_out hp11))) ⟨rfl,rfl⟩
 ·refine q_cond_f rfl (.tmp rfl) (bfalse hc8) (q_skipc rfl (qQ rfl (qQ rfl (qR rfl rfl (qS 13 rfl (oM · rfl) (rE ?_))))))
  try dsimp only [w0,w1,w2,w3]
  obtain ⟨p124,hp124,h⟩ := bindo h
  obtain ⟨p125,hp125,h⟩ := bindo h
  obtain ⟨n126,hn126,h⟩ := bindo h
  refine q_block rfl ?_
  refine q_range (D := D) (H := H) rfl (.tmp rfl) hD hH hp124 hp125 ?_ ?_
  ·intro β1 hle hLA vs T u T' hr
   obtain ⟨u123,hu123,hr⟩ := bindo hr
   obtain ⟨ar121,har121,hr⟩ := bindo hr
   obtain ⟨p122,hp122,hr⟩ := bindo hr
   rw [args1_out har121]
   refine q_yield2 hLA hu123 rfl rfl ?_
   rw [dP_out hp122]
   simp only [HAct.params,List.set_cons_zero,List.set_cons_succ]
   exact J0_snd hD (hH.up hle) hr
  ·rcases ifc h with ⟨hc127,h⟩ | ⟨hc127,h⟩
   ·rw [pcode0 hn126 hc127]
    simp only [jumped_none,jumped_some]
    obtain ⟨p128,hp128,h⟩ := bindo h
    refine hr_inBlock (qQ rfl (qR rfl rfl (qS 97 rfl (oL · sc4 rfl rfl (ldB_out hp128)) (qS 98 rfl (oM · rfl) ?_))))
    rcases ifc h with ⟨hc129,h⟩ | ⟨hc129,h⟩
    ·obtain ⟨p130,hp130,h⟩ := bindo h
     obtain ⟨p131,hp131,h⟩ := bindo h
     refine qG 98 99 rfl hc129 (oL · sc3 rfl rfl (ldI_out hp130)) (qG 98 100 rfl hc129 (oL · sc30 rfl rfl (ldSl_out hp131)) ?_)
     try dsimp only [w0,w1,w2,w3]
     refine qG 98 101 rfl hc129 (ok_len_sl (q := Sl.a p131) (n := Sl.len p131) (z := Sl.cap p131) · rfl tu30 (.tmp rfl)) (qG 98 102 rfl hc129 (oB · rfl rfl rfl) (qS 103 rfl (ok_pick_tt · (.tmp rfl) hc129 (.tmp rfl)) ?_))
     try dsimp only [w0,w1,w2,w3]
     exact J3_snd hD hH h
    ·refine q_skip (dst := some 99) (t := 98) rfl rfl rfl (bfalse hc129) (q_skip (dst := some 100) (t := 98) rfl rfl rfl (bfalse hc129) ?_)
     try dsimp only [w0,w1,w2,w3]
     refine q_skip (dst := some 101) (t := 98) rfl rfl rfl (bfalse hc129) (q_skip (dst := some 102) (t := 98) rfl rfl rfl (bfalse hc129) (qS 103 rfl (ok_pick_ff · (.tmp rfl) (bfalse hc129) (.bool _)) ?_))
     try dsimp only [w0,w1,w2,w3]
     exact J3_snd hD hH h
   ·rcases ifc h with ⟨hc137,h⟩ | ⟨hc137,h⟩
    ·rw [pcode1 hn126 hc137]
     simp only [jumped_none,jumped_some]
     obtain ⟨p138,hp138,h⟩ := bindo h
     obtain ⟨p139,hp139,h⟩ := bindo h
     cases h
     exact q_ret rfl at_.at_ hp138 (resL1 rfl (.cell rfl rfl sc4 (ldB_out hp139))) ⟨rfl,rfl⟩
    ·cases h
end rollcalllaw20_same
end
noncomputable section
variable {base : Nat} {W0 : World} {β0 : Bt}
variable {D : Dp} {H : Hd} {k : Nat} {Ga Gb Gc Gd Ge Gf Gh Gi Gj Gk Gl Gm Gn Go Gp Gq Gr Gs Gt Gu Gv Gw Gx Gy Gz Ka Kb Kc Kd Ke Kf Kg Kh Ki Kj Kk Kl Km Kn Ko Kp Kq Kr Ks Kt Ku Kv Kw Kx Ky Kz Ma Mb Mc Md Me Mf Mg Mh Mi Mj Mk Ml Mm Mn Mo Mp Mq Mr Ms Mt Mu Mv Mw Mx My Mz Na Nb Nc Nd Ne Nf Ng Nh Ni Nj Nk Nl Nm Nn No Np Nq Nr Ns Nt Nu Nv Nw Nx Ny Nz Qa Qb Qc Qd Qe Qf Qg Qh Qi Qj Qk Ql Qm Qn Qo Qp Qq Qr Qs Qt Qu Qv Qw Qx Qy Qz Ua Ub Uc Ud Ue Uf Ug Uh Ui Uj Uk Ul Um Un Uo Up Uq Ur Us Ut Uu Uv Uw Ux Uy Uz Va Vb Vc Vd Ve Vf Vg Vh Vi Vj Vk Vl Vm Vn Vo Vp Vq Vr Vs Vt Vu Vv Vw Vx Vy Vz : HV}
def call_103 (D : Dp) (H : Hd) (k : Nat) (vs : List HV) (S : HS) : Option (HV × HS) :=
 Option.bind (args2 vs) fun a =>
 Option.bind (dA2 a.1) fun p0 =>
 Option.bind (dS p0.1) fun p1 =>
 Option.bind (dP p0.2) fun p2 =>
 Option.bind (dS a.2) fun p3 =>
 Option.bind (book_Book_room_Room_at_1.f k p1 p2 p3 S) fun q =>
 some ((.int .i64 q.1),q.2)
theorem call_103_snd (hD : DS base W0 D) (hH : HT base W0 β0 H) {vs : List HV} {S : HS} {p : HV × HS} (h : call_103 D H k vs S = some p) : HCall Tryz.prog base W0 β0 103 vs S (fun v1 S1 => v1 = p.1 ∧ S1 = p.2) := by
 unfold call_103 at h
 obtain ⟨a,ha,h⟩ := bindo h
 obtain ⟨p0,hp0,h⟩ := bindo h
 obtain ⟨p1,hp1,h⟩ := bindo h
 obtain ⟨p2,hp2,h⟩ := bindo h
 obtain ⟨p3,hp3,h⟩ := bindo h
 obtain ⟨q,hq,h⟩ := bindo h
 rw [args2_out ha,dA2_out hp0,dS_out hp1,dP_out hp2,dS_out hp3]
 cases h
 exact book_Book_room_Room_at_1.snd hq
def call_97 (D : Dp) (H : Hd) (k : Nat) (vs : List HV) (S : HS) : Option (HV × HS) :=
 Option.bind (args2 vs) fun a =>
 Option.bind (dA3 a.1) fun p0 =>
 Option.bind (dI .i64 p0.1) fun p1 =>
 Option.bind (dB p0.2.1) fun p2 =>
 Option.bind (dB p0.2.2) fun p3 =>
 Option.bind (dI .i64 a.2) fun p4 =>
 Option.bind (room_Room_at_1.f p1 p2 p3 p4 S) fun q =>
 some ((.int .i64 q.1),q.2)
theorem call_97_snd (hD : DS base W0 D) (hH : HT base W0 β0 H) {vs : List HV} {S : HS} {p : HV × HS} (h : call_97 D H k vs S = some p) : HCall Tryz.prog base W0 β0 97 vs S (fun v1 S1 => v1 = p.1 ∧ S1 = p.2) := by
 unfold call_97 at h
 obtain ⟨a,ha,h⟩ := bindo h
 obtain ⟨p0,hp0,h⟩ := bindo h
 obtain ⟨p1,hp1,h⟩ := bindo h
 obtain ⟨p2,hp2,h⟩ := bindo h
 obtain ⟨p3,hp3,h⟩ := bindo h
 obtain ⟨p4,hp4,h⟩ := bindo h
 obtain ⟨q,hq,h⟩ := bindo h
 rw [args2_out ha,dA3_out hp0,dI_out hp1,dB_out hp2,dB_out hp3,dI_out hp4]
 cases h
 exact room_Room_at_1.snd hq
def call_130 (D : Dp) (H : Hd) (k : Nat) (vs : List HV) (S : HS) : Option (HV × HS) :=
 Option.bind (args2 vs) fun a =>
 Option.bind (dF a.1) fun p0 =>
 Option.bind (dP a.2) fun p1 =>
 Option.bind (slices_Values_string_string_1.f D H k p0 p1 S) fun q =>
 some (.tup [],q.2)
theorem call_130_snd (hD : DS base W0 D) (hH : HT base W0 β0 H) {vs : List HV} {S : HS} {p : HV × HS} (h : call_130 D H k vs S = some p) : HCall Tryz.prog base W0 β0 130 vs S (fun v1 S1 => v1 = p.1 ∧ S1 = p.2) := by
 unfold call_130 at h
 obtain ⟨a,ha,h⟩ := bindo h
 obtain ⟨p0,hp0,h⟩ := bindo h
 obtain ⟨p1,hp1,h⟩ := bindo h
 obtain ⟨q,hq,h⟩ := bindo h
 rw [args2_out ha,dF_out hp0,dP_out hp1]
 cases h
 exact slices_Values_string_string_1.snd hD hH hq
def call_93 (D : Dp) (H : Hd) (k : Nat) (vs : List HV) (S : HS) : Option (HV × HS) :=
 Option.bind (args1 vs) fun a =>
 Option.bind (dF a) fun p0 =>
 Option.bind (pair_Rel_int_string_Of_1.f p0) fun q =>
 some (.tup [],S)
theorem call_93_snd (hD : DS base W0 D) (hH : HT base W0 β0 H) {vs : List HV} {S : HS} {p : HV × HS} (h : call_93 D H k vs S = some p) : HCall Tryz.prog base W0 β0 93 vs S (fun v1 S1 => v1 = p.1 ∧ S1 = p.2) := by
 unfold call_93 at h
 obtain ⟨a,ha,h⟩ := bindo h
 obtain ⟨p0,hp0,h⟩ := bindo h
 obtain ⟨q,hq,h⟩ := bindo h
 rw [args1_out ha,dF_out hp0]
 cases h
 exact pair_Rel_int_string_Of_1.snd hq
def call_63 (D : Dp) (H : Hd) (k : Nat) (vs : List HV) (S : HS) : Option (HV × HS) :=
 Option.bind (args2 vs) fun a =>
 Option.bind (dF a.1) fun p0 =>
 Option.bind (dP a.2) fun p1 =>
 Option.bind (rooms_Rooms_Of_1.f D H k p0 p1 S) fun q =>
 some (.tup [],q.2)
theorem call_63_snd (hD : DS base W0 D) (hH : HT base W0 β0 H) {vs : List HV} {S : HS} {p : HV × HS} (h : call_63 D H k vs S = some p) : HCall Tryz.prog base W0 β0 63 vs S (fun v1 S1 => v1 = p.1 ∧ S1 = p.2) := by
 unfold call_63 at h
 obtain ⟨a,ha,h⟩ := bindo h
 obtain ⟨p0,hp0,h⟩ := bindo h
 obtain ⟨p1,hp1,h⟩ := bindo h
 obtain ⟨q,hq,h⟩ := bindo h
 rw [args2_out ha,dF_out hp0,dP_out hp1]
 cases h
 exact rooms_Rooms_Of_1.snd hD hH hq
def call_113 (D : Dp) (H : Hd) (k : Nat) (vs : List HV) (S : HS) : Option (HV × HS) :=
 Option.bind (args2 vs) fun a =>
 Option.bind (dF a.1) fun p0 =>
 Option.bind (dP a.2) fun p1 =>
 Option.bind (slices_Values_api_Member_api_Member_1.f D H k p0 p1 S) fun q =>
 some (.tup [],q.2)
theorem call_113_snd (hD : DS base W0 D) (hH : HT base W0 β0 H) {vs : List HV} {S : HS} {p : HV × HS} (h : call_113 D H k vs S = some p) : HCall Tryz.prog base W0 β0 113 vs S (fun v1 S1 => v1 = p.1 ∧ S1 = p.2) := by
 unfold call_113 at h
 obtain ⟨a,ha,h⟩ := bindo h
 obtain ⟨p0,hp0,h⟩ := bindo h
 obtain ⟨p1,hp1,h⟩ := bindo h
 obtain ⟨q,hq,h⟩ := bindo h
 rw [args2_out ha,dF_out hp0,dP_out hp1]
 cases h
 exact slices_Values_api_Member_api_Member_1.snd hD hH hq
def call_81 (D : Dp) (H : Hd) (k : Nat) (vs : List HV) (S : HS) : Option (HV × HS) :=
 Option.bind (args1 vs) fun a =>
 Option.bind (dF a) fun p0 =>
 Option.bind (room_Room_Members_1.f p0) fun q =>
 some (.tup [],S)
theorem call_81_snd (hD : DS base W0 D) (hH : HT base W0 β0 H) {vs : List HV} {S : HS} {p : HV × HS} (h : call_81 D H k vs S = some p) : HCall Tryz.prog base W0 β0 81 vs S (fun v1 S1 => v1 = p.1 ∧ S1 = p.2) := by
 unfold call_81 at h
 obtain ⟨a,ha,h⟩ := bindo h
 obtain ⟨p0,hp0,h⟩ := bindo h
 obtain ⟨q,hq,h⟩ := bindo h
 rw [args1_out ha,dF_out hp0]
 cases h
 exact room_Room_Members_1.snd hq
def call_88 (D : Dp) (H : Hd) (k : Nat) (vs : List HV) (S : HS) : Option (HV × HS) :=
 Option.bind (args2 vs) fun a =>
 Option.bind (dF a.1) fun p0 =>
 Option.bind (dP a.2) fun p1 =>
 Option.bind (set_Union_int_1.f D H k p0 p1 S) fun q =>
 some (.tup [],q.2)
theorem call_88_snd (hD : DS base W0 D) (hH : HT base W0 β0 H) {vs : List HV} {S : HS} {p : HV × HS} (h : call_88 D H k vs S = some p) : HCall Tryz.prog base W0 β0 88 vs S (fun v1 S1 => v1 = p.1 ∧ S1 = p.2) := by
 unfold call_88 at h
 obtain ⟨a,ha,h⟩ := bindo h
 obtain ⟨p0,hp0,h⟩ := bindo h
 obtain ⟨p1,hp1,h⟩ := bindo h
 obtain ⟨q,hq,h⟩ := bindo h
 rw [args2_out ha,dF_out hp0,dP_out hp1]
 cases h
 exact set_Union_int_1.snd hD hH hq
def call_86 (D : Dp) (H : Hd) (k : Nat) (vs : List HV) (S : HS) : Option (HV × HS) :=
 Option.bind (args3 vs) fun a =>
 Option.bind (dF a.1) fun p0 =>
 Option.bind (dP a.2.1) fun p1 =>
 Option.bind (dP a.2.2) fun p2 =>
 Option.bind (set_Without_int_1.f D H p0 p1 p2 S) fun q =>
 some (.tup [],q.2)
theorem call_86_snd (hD : DS base W0 D) (hH : HT base W0 β0 H) {vs : List HV} {S : HS} {p : HV × HS} (h : call_86 D H k vs S = some p) : HCall Tryz.prog base W0 β0 86 vs S (fun v1 S1 => v1 = p.1 ∧ S1 = p.2) := by
 unfold call_86 at h
 obtain ⟨a,ha,h⟩ := bindo h
 obtain ⟨p0,hp0,h⟩ := bindo h
 obtain ⟨p1,hp1,h⟩ := bindo h
 obtain ⟨p2,hp2,h⟩ := bindo h
 obtain ⟨q,hq,h⟩ := bindo h
 rw [args3_out ha,dF_out hp0,dP_out hp1,dP_out hp2]
 cases h
 exact set_Without_int_1.snd hD hH hq
def call_119 (D : Dp) (H : Hd) (k : Nat) (vs : List HV) (S : HS) : Option (HV × HS) :=
 Option.bind (args2 vs) fun a =>
 Option.bind (dF a.1) fun p0 =>
 Option.bind (dP a.2) fun p1 =>
 Option.bind (book_told_room_Room_1.f D H k p0 p1 S) fun q =>
 some (.tup [],q.2)
theorem call_119_snd (hD : DS base W0 D) (hH : HT base W0 β0 H) {vs : List HV} {S : HS} {p : HV × HS} (h : call_119 D H k vs S = some p) : HCall Tryz.prog base W0 β0 119 vs S (fun v1 S1 => v1 = p.1 ∧ S1 = p.2) := by
 unfold call_119 at h
 obtain ⟨a,ha,h⟩ := bindo h
 obtain ⟨p0,hp0,h⟩ := bindo h
 obtain ⟨p1,hp1,h⟩ := bindo h
 obtain ⟨q,hq,h⟩ := bindo h
 rw [args2_out ha,dF_out hp0,dP_out hp1]
 cases h
 exact book_told_room_Room_1.snd hD hH hq
def call_90 (D : Dp) (H : Hd) (k : Nat) (vs : List HV) (S : HS) : Option (HV × HS) :=
 Option.bind (args1 vs) fun a =>
 Option.bind (dF a) fun p0 =>
 Option.bind (book_Book_room_Room_All_1.f p0) fun q =>
 some (.tup [],S)
theorem call_90_snd (hD : DS base W0 D) (hH : HT base W0 β0 H) {vs : List HV} {S : HS} {p : HV × HS} (h : call_90 D H k vs S = some p) : HCall Tryz.prog base W0 β0 90 vs S (fun v1 S1 => v1 = p.1 ∧ S1 = p.2) := by
 unfold call_90 at h
 obtain ⟨a,ha,h⟩ := bindo h
 obtain ⟨p0,hp0,h⟩ := bindo h
 obtain ⟨q,hq,h⟩ := bindo h
 rw [args1_out ha,dF_out hp0]
 cases h
 exact book_Book_room_Room_All_1.snd hq
def call_59 (D : Dp) (H : Hd) (k : Nat) (vs : List HV) (S : HS) : Option (HV × HS) :=
 Option.bind (args1 vs) fun a =>
 Option.bind (dF a) fun p0 =>
 Option.bind (rooms_Rooms_All_1.f p0) fun q =>
 some (.tup [],S)
theorem call_59_snd (hD : DS base W0 D) (hH : HT base W0 β0 H) {vs : List HV} {S : HS} {p : HV × HS} (h : call_59 D H k vs S = some p) : HCall Tryz.prog base W0 β0 59 vs S (fun v1 S1 => v1 = p.1 ∧ S1 = p.2) := by
 unfold call_59 at h
 obtain ⟨a,ha,h⟩ := bindo h
 obtain ⟨p0,hp0,h⟩ := bindo h
 obtain ⟨q,hq,h⟩ := bindo h
 rw [args1_out ha,dF_out hp0]
 cases h
 exact rooms_Rooms_All_1.snd hq
def call_61 (D : Dp) (H : Hd) (k : Nat) (vs : List HV) (S : HS) : Option (HV × HS) :=
 Option.bind (args2 vs) fun a =>
 Option.bind (dF a.1) fun p0 =>
 Option.bind (dP a.2) fun p1 =>
 Option.bind (rooms_Rooms_All_2.f D H p0 p1 S) fun q =>
 some (.tup [],q.2)
theorem call_61_snd (hD : DS base W0 D) (hH : HT base W0 β0 H) {vs : List HV} {S : HS} {p : HV × HS} (h : call_61 D H k vs S = some p) : HCall Tryz.prog base W0 β0 61 vs S (fun v1 S1 => v1 = p.1 ∧ S1 = p.2) := by
 unfold call_61 at h
 obtain ⟨a,ha,h⟩ := bindo h
 obtain ⟨p0,hp0,h⟩ := bindo h
 obtain ⟨p1,hp1,h⟩ := bindo h
 obtain ⟨q,hq,h⟩ := bindo h
 rw [args2_out ha,dF_out hp0,dP_out hp1]
 cases h
 exact rooms_Rooms_All_2.snd hD hH hq
def disp (k : Nat) : Nat → Dp
 | 0 => fun _ _ _ _ => none
 | n + 1 => fun H fv vs S => match fv with
  | .fn (.yield l) [] [] => Option.bind (H l) fun r => r vs S
  | .fn (.func f) xs ys => if f = 103 then call_103 (disp k n) H k (xs ++ vs ++ ys) S else if f = 97 then call_97 (disp k n) H k (xs ++ vs ++ ys) S else if f = 130 then call_130 (disp k n) H k (xs ++ vs ++ ys) S else if f = 93 then call_93 (disp k n) H k (xs ++ vs ++ ys) S else if f = 63 then call_63 (disp k n) H k (xs ++ vs ++ ys) S else if f = 113 then call_113 (disp k n) H k (xs ++ vs ++ ys) S else if f = 81 then call_81 (disp k n) H k (xs ++ vs ++ ys) S else if f = 88 then call_88 (disp k n) H k (xs ++ vs ++ ys) S else if f = 86 then call_86 (disp k n) H k (xs ++ vs ++ ys) S else if f = 119 then call_119 (disp k n) H k (xs ++ vs ++ ys) S else if f = 90 then call_90 (disp k n) H k (xs ++ vs ++ ys) S else if f = 59 then call_59 (disp k n) H k (xs ++ vs ++ ys) S else if f = 61 then call_61 (disp k n) H k (xs ++ vs ++ ys) S else none
  | _ => none
theorem disp_func {k n : Nat} {H : Hd} {f : Nat} {xs ys vs : List HV} {S : HS} : disp k (n + 1) H (.fn (.func f) xs ys) vs S = (if f = 103 then call_103 (disp k n) H k (xs ++ vs ++ ys) S else if f = 97 then call_97 (disp k n) H k (xs ++ vs ++ ys) S else if f = 130 then call_130 (disp k n) H k (xs ++ vs ++ ys) S else if f = 93 then call_93 (disp k n) H k (xs ++ vs ++ ys) S else if f = 63 then call_63 (disp k n) H k (xs ++ vs ++ ys) S else if f = 113 then call_113 (disp k n) H k (xs ++ vs ++ ys) S else if f = 81 then call_81 (disp k n) H k (xs ++ vs ++ ys) S else if f = 88 then call_88 (disp k n) H k (xs ++ vs ++ ys) S else if f = 86 then call_86 (disp k n) H k (xs ++ vs ++ ys) S else if f = 119 then call_119 (disp k n) H k (xs ++ vs ++ ys) S else if f = 90 then call_90 (disp k n) H k (xs ++ vs ++ ys) S else if f = 59 then call_59 (disp k n) H k (xs ++ vs ++ ys) S else if f = 61 then call_61 (disp k n) H k (xs ++ vs ++ ys) S else none) := rfl
theorem disp_yield {k n : Nat} {H : Hd} {l : Nat} {vs : List HV} {S : HS} : disp k (n + 1) H (.fn (.yield l) [] []) vs S = Option.bind (H l) fun r => r vs S := rfl
theorem disp_snd : ∀ n,DSound Tryz.prog base W0 (disp k n) := by
 intro n
 induction n with
 | zero => intro _ _ _ _ _ _ _ _ h; cases h
 | succ n ih =>
  intro β0 H hH fv vs S v S' h
  unfold disp at h
  split at h
  ·obtain ⟨r,hr,h⟩ := bindo h
   exact hH _ _ hr _ _ _ _ h
  ·skip
   rcases ifc h with ⟨hf,h⟩ | ⟨hf,h⟩
   ·subst hf; exact HInv.func book_Book_room_Room_at_1.at_ book_Book_room_Room_at_1.body (call_103_snd (k := k) ih hH h)
   rcases ifc h with ⟨hf,h⟩ | ⟨hf,h⟩
   ·subst hf; exact HInv.func room_Room_at_1.at_ room_Room_at_1.body (call_97_snd (k := k) ih hH h)
   rcases ifc h with ⟨hf,h⟩ | ⟨hf,h⟩
   ·subst hf; exact HInv.func slices_Values_string_string_1.at_ slices_Values_string_string_1.body (call_130_snd (k := k) ih hH h)
   rcases ifc h with ⟨hf,h⟩ | ⟨hf,h⟩
   ·subst hf; exact HInv.func pair_Rel_int_string_Of_1.at_ pair_Rel_int_string_Of_1.body (call_93_snd (k := k) ih hH h)
   rcases ifc h with ⟨hf,h⟩ | ⟨hf,h⟩
   ·subst hf; exact HInv.func rooms_Rooms_Of_1.at_ rooms_Rooms_Of_1.body (call_63_snd (k := k) ih hH h)
   rcases ifc h with ⟨hf,h⟩ | ⟨hf,h⟩
   ·subst hf; exact HInv.func slices_Values_api_Member_api_Member_1.at_ slices_Values_api_Member_api_Member_1.body (call_113_snd (k := k) ih hH h)
   rcases ifc h with ⟨hf,h⟩ | ⟨hf,h⟩
   ·subst hf; exact HInv.func room_Room_Members_1.at_ room_Room_Members_1.body (call_81_snd (k := k) ih hH h)
   rcases ifc h with ⟨hf,h⟩ | ⟨hf,h⟩
   ·subst hf; exact HInv.func set_Union_int_1.at_ set_Union_int_1.body (call_88_snd (k := k) ih hH h)
   rcases ifc h with ⟨hf,h⟩ | ⟨hf,h⟩
   ·subst hf; exact HInv.func set_Without_int_1.at_ set_Without_int_1.body (call_86_snd (k := k) ih hH h)
   rcases ifc h with ⟨hf,h⟩ | ⟨hf,h⟩
   ·subst hf; exact HInv.func book_told_room_Room_1.at_ book_told_room_Room_1.body (call_119_snd (k := k) ih hH h)
   rcases ifc h with ⟨hf,h⟩ | ⟨hf,h⟩
   ·subst hf; exact HInv.func book_Book_room_Room_All_1.at_ book_Book_room_Room_All_1.body (call_90_snd (k := k) ih hH h)
   rcases ifc h with ⟨hf,h⟩ | ⟨hf,h⟩
   ·subst hf; exact HInv.func rooms_Rooms_All_1.at_ rooms_Rooms_All_1.body (call_59_snd (k := k) ih hH h)
   rcases ifc h with ⟨hf,h⟩ | ⟨hf,h⟩
   ·subst hf; exact HInv.func rooms_Rooms_All_2.at_ rooms_Rooms_All_2.body (call_61_snd (k := k) ih hH h)
   cases h
  ·cases h
end
noncomputable section
variable {base : Nat} {W0 : World} {β0 : Bt}
variable {D : Dp} {H : Hd} {k : Nat} {Ga Gb Gc Gd Ge Gf Gh Gi Gj Gk Gl Gm Gn Go Gp Gq Gr Gs Gt Gu Gv Gw Gx Gy Gz Ka Kb Kc Kd Ke Kf Kg Kh Ki Kj Kk Kl Km Kn Ko Kp Kq Kr Ks Kt Ku Kv Kw Kx Ky Kz Ma Mb Mc Md Me Mf Mg Mh Mi Mj Mk Ml Mm Mn Mo Mp Mq Mr Ms Mt Mu Mv Mw Mx My Mz Na Nb Nc Nd Ne Nf Ng Nh Ni Nj Nk Nl Nm Nn No Np Nq Nr Ns Nt Nu Nv Nw Nx Ny Nz Qa Qb Qc Qd Qe Qf Qg Qh Qi Qj Qk Ql Qm Qn Qo Qp Qq Qr Qs Qt Qu Qv Qw Qx Qy Qz Ua Ub Uc Ud Ue Uf Ug Uh Ui Uj Uk Ul Um Un Uo Up Uq Ur Us Ut Uu Uv Uw Ux Uy Uz Va Vb Vc Vd Ve Vf Vg Vh Vi Vj Vk Vl Vm Vn Vo Vp Vq Vr Vs Vt Vu Vv Vw Vx Vy Vz : HV}
theorem A0 : (rollcalllaw20_awake.f (disp 2000 60) (fun _ => none) 2000 S0).map (fun p => p.1) = some true := by kernel_rfl
namespace aw
def f (S : HS) : Option (Bool × HS) := some (true,S)
theorem snd {base : Nat} {W0 : World} {β0 : Bt} {S : HS} {p : Bool × HS} (h : f S = some p) : HCall Tryz.prog base W0 β0 7 [] S (fun v S1 => v = (.bool p.1) ∧ S1 = p.2) := by
 unfold f at h
 cases h
 refine HCall.of_calls (v := .bool true) fun β w args' _ ha => ⟨.bool true,.bool true,?_⟩
 have h0 : args' = #[] := by have := ha.1; simpa using this.symm
 subst h0
 cases hA : rollcalllaw20_awake.f (disp 2000 60) (fun _ => none) 2000 S0 with
 | none => have := A0; rw [hA] at this; cases this
 | some q =>
  have h1 : q.1 = true := by have := A0; rw [hA] at this; simpa using this
  have hc := rollcalllaw20_awake.snd (base := w.heap.size) (W0 := w) (β0 := B0) (disp_snd 60) (fun _ _ h => by cases h) hA
  rw [h1] at hc
  refine HCall.calls hc (rel0 w) (VRels.nil B0) fun v S1 g => g.1
end aw
namespace rollcalllaw20_RoomsStay
theorem at_ : FnAt Tryz.prog 6 Tryz.f6 := ⟨Tryz.func6,by kernel_rfl⟩
def d0 := (Tryz.f6.body).getD .skip
def r1 := kR (kA d0)
def r4 := kR (kA (kA (kB d0)))
def r7 := kR (kA (kA (kB (kA (kB d0)))))
def r12 := kR (kA (kA (kB (kB d0))))
def r15 := kR (kA (kA (kB (kA (kB (kB d0))))))
def d18 := kB (kB (kB d0))
def r19 := kR (kA d18)
def r22 := kR (kA (kA (kB d18)))
def d23 := kB (kA (kB d18))
def r27 := kR (kA (kA (kA (kA d23))))
def d31 := kB (kA (kA d23))
def r34 := kR (kA (kA (kA d31)))
def r36 := kR (kA (kB (kA (kA d31))))
def r39 := kR (kA (kA (kB (kB (kA (kA d31))))))
def r42 := kR (kB d31)
def r44 := kR (kA (kB (kB d18)))
def d45 := kB (kB (kB d18))
def r46 := kR (kA d45)
def r49 := kR (kA (kA (kB d45)))
def d50 := kB (kA (kB d45))
def r54 := kR (kA (kA (kA (kA d50))))
def d58 := kB (kA (kA d50))
def r61 := kR (kA (kA (kA d58)))
def r63 := kR (kA (kB (kA (kA d58))))
def r66 := kR (kA (kA (kB (kB (kA (kA d58))))))
def r69 := kR (kB d58)
def r72 := kR (kA (kA (kB (kB d45))))
def r75 := kR (kA (kA (kB (kA (kB (kB d45))))))
def d78 := kB (kB (kB d45))
def r79 := kR (kA d78)
def r82 := kR (kA (kA (kB d78)))
def d86 := kB (kA (kB (kA (kB d78))))
def r88 := kR (kA (kA d86))
def r90 := kR (kA (kB (kA d86)))
def r93 := kR (kA (kA (kB (kB (kA d86)))))
def r97 := kR (kA (kB (kB d78)))
def d98 := kB (kB (kB d78))
def r99 := kR (kA d98)
def r101 := kR (kA (kB d98))
def r103 := kR (kA (kB (kB d98)))
def r105 := kR (kA (kB (kB (kB d98))))
def c106 : Code := .ret
def c86 : Code := .block 5 (.seq (.region 24 r88 false) (.seq (.region 25 r90 false) (.cond (.tmp 103) (.seq (.region 26 r93 false) .ret) .skip)))
def c85 : Code := .skip
def c78 : Code := .seq (.region 22 r79 false) (.seq (.seq (.region 23 r82 false) (.block 4 (.rangeFunc (.tmp 97) #[98] c85 c86))) (.seq (.region 27 r97 false) (.seq (.region 28 r99 false) (.seq (.region 29 r101 false) (.seq (.region 30 r103 false) (.seq (.region 31 r105 false) c106))))))
def c73 : Code := .cond (.tmp 96) (.seq (.region 21 r75 false) .ret) .skip
def c70 : Code := .seq (.seq (.region 20 r72 false) c73) c78
def c52 : Code := .seq (.seq (.region 15 r54 false) (.cond (.tmp 72) .skip (.exit 2))) (.seq (.block 3 (.seq (.region 17 r61 false) (.seq (.region 18 r63 false) (.cond (.tmp 89) (.seq (.region 19 r66 false) .ret) .skip)))) (.region 16 r69 false))
def c43 : Code := .seq (.region 12 r44 false) (.seq (.region 13 r46 false) (.seq (.seq (.region 14 r49 false) (.block 2 (.loop c52))) c70))
def c42 : Code := .region 8 r42 false
def c37 : Code := .cond (.tmp 64) (.seq (.region 11 r39 false) .ret) .skip
def c25 : Code := .seq (.seq (.region 7 r27 false) (.cond (.tmp 33) .skip (.exit 0))) (.seq (.block 1 (.seq (.region 9 r34 true) (.seq (.region 10 r36 false) c37))) c42)
def c0 : Code := .seq (.region 0 r1 false) (.seq (.seq (.region 1 r4 false) (.cond (.tmp 21) (.seq (.region 2 r7 false) .ret) .skip)) (.seq (.seq (.region 3 r12 false) (.cond (.tmp 23) (.seq (.region 4 r15 false) .ret) .skip)) (.seq (.region 5 r19 false) (.seq (.seq (.region 6 r22 false) (.block 0 (.loop c25))) c43))))
theorem body : Tryz.f6.body = some c0 := by kernel_rfl
def J1 (D : Dp) (H : Hd) (k : Nat) (rec0 : Int → Int → Sl → HP → HP → Int → List Nat → HS → Option ((Bool) × HS)) (y0 : Int) (y1 : Int) (y2 : Sl) (y6 : HP) (y7 : HP) (y8 : Int) (y64 : Bool) (ds : List Nat) (S : HS) : Option ((Bool) × HS) :=
 (if y64 = true then
 (y6.bind fun p22 =>
 ((S.sets p22 [(.bool false)]).bind fun p23 =>
 ((p23.leave ds).bind fun p24 =>
 (y6.bind fun p25 =>
 ((p24.ldB p25).bind fun p26 =>
 some (p26,p24)))))) else
 rec0 y0 y1 y2 y6 y7 (w64 (y8 + 1)) ds S)
theorem J1_snd {rec0 : Int → Int → Sl → HP → HP → Int → List Nat → HS → Option ((Bool) × HS)} (hD : DS base W0 D) (hH : HT base W0 β0 H) (hrec0 : ∀ ⦃y0 : Int⦄ ⦃y1 : Int⦄ ⦃y2 : Sl⦄ ⦃y6 : HP⦄ ⦃y7 : HP⦄ ⦃y8 : Int⦄ ⦃ds : List Nat⦄ ⦃S : HS⦄ ⦃p : (Bool) × HS⦄ ⦃Gd Ge Gf Gj Gk Gl Gm Gn Go Gp Gq Gr Gs Gt Gu Gv Gw Gx Gy Gz Ka Kb Kc Kd Ke Kf Kg Kh Ki Kj Kk Kl Km Kn Ko Kp Kq Kr Ks Kt Ku Kv Kw Kx Ky Kz Ma Mb Mc Md Me Mf Mg Mh Mi Mj Mk Ml Mm Mn Mo Mp Mq Mr Ms Mt Mu Mv Mw Mx My Mz Na Nb Nc Nd Ne Nf Ng Nh Ni Nj Nk Nl Nm Nn No Np Nq Nr Ns Nt Nu Nv Nw Nx Ny Nz Qa Qb Qc Qd Qe Qf Qg Qh Qi Qj Qk Ql Qm Qn Qo Qp Qq Qr Qs Qt Qu Qv Qw Qx Qy Qz Ua Ub Uc Ud Ue Uf Ug Uh Ui Uj Uk Ul Um Un Uo Up Uq Ur Us Ut Uu Uv Uw Ux Uy Uz Va Vb Vc Vd Ve Vf Vg Vh Vi Vj Vk Vl Vm Vn Vo Vp Vq Vr Vs Vt Vu Vv Vw Vx Vy Vz : HV⦄,rec0 y0 y1 y2 y6 y7 y8 ds S = some p → HR base W0 β0 6 none [.inLoop c25,.inBlock 0,.code c43] ⟨[(.int .u8 y0),(.int .u8 y1),(Sl.hv y2),Gd,Ge,Gf,(.ptr y6),(.ptr y7),(.int .i64 y8),Gj,Gk,Gl,Gm,Gn,Go,Gp,Gq,Gr,Gs,Gt,Gu,Gv,Gw,Gx,Gy,Gz,Ka,Kb,Kc,Kd,Ke,Kf,Kg,Kh,Ki,Kj,Kk,Kl,Km,Kn,Ko,Kp,Kq,Kr,Ks,Kt,Ku,Kv,Kw,Kx,Ky,Kz,Ma,Mb,Mc,Md,Me,Mf,Mg,Mh,Mi,Mj,Mk,Ml,Mm,Mn,Mo,Mp,Mq,Mr,Ms,Mt,Mu,Mv,Mw,Mx,My,Mz,Na,Nb,Nc,Nd,Ne,Nf,Ng,Nh,Ni,Nj,Nk,Nl,Nm,Nn,No,Np,Nq,Nr,Ns,Nt,Nu,Nv,Nw,Nx,Ny,Nz,Qa,Qb,Qc,Qd,Qe,Qf,Qg,Qh,Qi,Qj,Qk,Ql,Qm,Qn,Qo,Qp,Qq,Qr,Qs,Qt,Qu,Qv,Qw,Qx,Qy,Qz,Ua,Ub,Uc,Ud,Ue,Uf,Ug,Uh,Ui,Uj,Uk,Ul,Um,Un,Uo,Up,Uq,Ur,Us,Ut,Uu,Uv,Uw,Ux,Uy,Uz,Va,Vb,Vc,Vd,Ve,Vf,Vg,Vh,Vi,Vj,Vk,Vl,Vm,Vn,Vo,Vp,Vq,Vr,Vs,Vt,Vu,Vv,Vw,Vx,Vy,Vz],ds⟩ S (fun v S1 => v = (.bool p.1) ∧ S1 = p.2)) {y0 : Int} {y1 : Int} {y2 : Sl} {y6 : HP} {y7 : HP} {y8 : Int} {y64 : Bool} {ds : List Nat} {S : HS} {p : (Bool) × HS} (h : J1 D H k rec0 y0 y1 y2 y6 y7 y8 y64 ds S = some p) : HR base W0 β0 6 none [.code c37,.inBlock 1,.code c42,.inLoop c25,.inBlock 0,.code c43] ⟨[(.int .u8 y0),(.int .u8 y1),(Sl.hv y2),Gd,Ge,Gf,(.ptr y6),(.ptr y7),(.int .i64 y8),Gj,Gk,Gl,Gm,Gn,Go,Gp,Gq,Gr,Gs,Gt,Gu,Gv,Gw,Gx,Gy,Gz,Ka,Kb,Kc,Kd,Ke,Kf,Kg,Kh,Ki,Kj,Kk,Kl,Km,Kn,Ko,Kp,Kq,Kr,Ks,Kt,Ku,Kv,Kw,Kx,Ky,Kz,Ma,Mb,Mc,Md,Me,Mf,Mg,Mh,Mi,Mj,Mk,Ml,(.bool y64),Mn,Mo,Mp,Mq,Mr,Ms,Mt,Mu,Mv,Mw,Mx,My,Mz,Na,Nb,Nc,Nd,Ne,Nf,Ng,Nh,Ni,Nj,Nk,Nl,Nm,Nn,No,Np,Nq,Nr,Ns,Nt,Nu,Nv,Nw,Nx,Ny,Nz,Qa,Qb,Qc,Qd,Qe,Qf,Qg,Qh,Qi,Qj,Qk,Ql,Qm,Qn,Qo,Qp,Qq,Qr,Qs,Qt,Qu,Qv,Qw,Qx,Qy,Qz,Ua,Ub,Uc,Ud,Ue,Uf,Ug,Uh,Ui,Uj,Uk,Ul,Um,Un,Uo,Up,Uq,Ur,Us,Ut,Uu,Uv,Uw,Ux,Uy,Uz,Va,Vb,Vc,Vd,Ve,Vf,Vg,Vh,Vi,Vj,Vk,Vl,Vm,Vn,Vo,Vp,Vq,Vr,Vs,Vt,Vu,Vv,Vw,Vx,Vy,Vz],ds⟩ S (fun v S1 => v = (.bool p.1) ∧ S1 = p.2) := by
 unfold J1 at h
 rcases ifc h with ⟨hc21,h⟩ | ⟨hc21,h⟩
 ·obtain ⟨p22,hp22,h⟩ := bindo h
  obtain ⟨p23,hp23,h⟩ := bindo h
  refine q_cond_t rfl (.tmp rfl) hc21 (qQ rfl (qR rfl rfl (qN rfl (ok_store_s (v := (.bool false)) · sz4 (.tmp rfl) hp22 (.bool _) rfl hp23) (rE ?_))))
  try dsimp only [w0,w1,w2,w3]
  obtain ⟨p24,hp24,h⟩ := bindo h
  obtain ⟨p25,hp25,h⟩ := bindo h
  obtain ⟨p26,hp26,h⟩ := bindo h
  cases h
  exact q_ret rfl at_.at_ hp24 (resL1 rfl (.cell rfl hp25 sc4 (ldB_out hp26))) ⟨rfl,rfl⟩
 ·refine q_cond_f rfl (.tmp rfl) (bfalse hc21) (q_skipc rfl (hr_inBlock (qR rfl rfl (qS 34 rfl (oM · rfl) (qS 35 rfl (oC · rfl rfl) (qS 8 rfl (oA · rfl) (rE ?_)))))))
  try dsimp only [w0,w1,w2,w3]
  exact hrec0 h
def J4 (D : Dp) (H : Hd) (k : Nat) (l : Nat) (y6 : HP) (y10 : HP) (y12 : HP) (S : HS) : Option (HV × HS) :=
 ((S.begin_ l).bind fun p57 =>
 (y12.bind fun p58 =>
 ((p57.ldI .i64 p58).bind fun p59 =>
 (y12.bind fun p60 =>
 ((p57.sets p60 [(.int .i64 (w64 (p59 + 1)))]).bind fun p61 =>
 (y12.bind fun p62 =>
 ((p61.ldI .i64 p62).bind fun p63 =>
 (y10.bind fun p64 =>
 ((p61.ldI .i64 p64).bind fun p65 =>
 (if p63 > p65 then
 (y6.bind fun p67 =>
 ((p61.sets p67 [(.bool false)]).bind fun p68 =>
 (HS.endr p68 l (some .ret)))) else
 (HS.endr p61 l none)))))))))))
theorem J4_snd {l : Nat} (hD : DS base W0 D) (hH : HT base W0 β0 H)  {y6 : HP} {y10 : HP} {y12 : HP} {S : HS} {p : HV × HS} (h : J4 D H k l y6 y10 y12 S = some p) : HR base W0 β0 6 (some l) [.code c85,.beginRound,.code c86] ⟨[Ga,Gb,Gc,Gd,Ge,Gf,(.ptr y6),Gh,Gi,Gj,(.ptr y10),Gl,(.ptr y12),Gn,Go,Gp,Gq,Gr,Gs,Gt,Gu,Gv,Gw,Gx,Gy,Gz,Ka,Kb,Kc,Kd,Ke,Kf,Kg,Kh,Ki,Kj,Kk,Kl,Km,Kn,Ko,Kp,Kq,Kr,Ks,Kt,Ku,Kv,Kw,Kx,Ky,Kz,Ma,Mb,Mc,Md,Me,Mf,Mg,Mh,Mi,Mj,Mk,Ml,Mm,Mn,Mo,Mp,Mq,Mr,Ms,Mt,Mu,Mv,Mw,Mx,My,Mz,Na,Nb,Nc,Nd,Ne,Nf,Ng,Nh,Ni,Nj,Nk,Nl,Nm,Nn,No,Np,Nq,Nr,Ns,Nt,Nu,Nv,Nw,Nx,Ny,Nz,Qa,Qb,Qc,Qd,Qe,Qf,Qg,Qh,Qi,Qj,Qk,Ql,Qm,Qn,Qo,Qp,Qq,Qr,Qs,Qt,Qu,Qv,Qw,Qx,Qy,Qz,Ua,Ub,Uc,Ud,Ue,Uf,Ug,Uh,Ui,Uj,Uk,Ul,Um,Un,Uo,Up,Uq,Ur,Us,Ut,Uu,Uv,Uw,Ux,Uy,Uz,Va,Vb,Vc,Vd,Ve,Vf,Vg,Vh,Vi,Vj,Vk,Vl,Vm,Vn,Vo,Vp,Vq,Vr,Vs,Vt,Vu,Vv,Vw,Vx,Vy,Vz],[]⟩ S (fun v S1 => v = p.1 ∧ S1 = p.2) := by
 unfold J4 at h
 obtain ⟨p57,hp57,h⟩ := bindo h
 refine q_skipc rfl ?_
 refine q_begin hp57 ?_
 obtain ⟨p58,hp58,h⟩ := bindo h
 obtain ⟨p59,hp59,h⟩ := bindo h
 obtain ⟨p60,hp60,h⟩ := bindo h
 obtain ⟨p61,hp61,h⟩ := bindo h
 refine q_block rfl (qQ rfl (qR rfl rfl (qS 99 rfl (oL · sc3 rfl hp58 (ldI_out hp59)) (qS 100 rfl (oC · rfl rfl) (qN rfl (ok_store_s (v := (.int .i64 (w64 (p59 + 1)))) · sz3 (.tmp rfl) hp60 (.tmp rfl) rfl hp61) (rE ?_))))))
 try dsimp only [w0,w1,w2,w3]
 obtain ⟨p62,hp62,h⟩ := bindo h
 obtain ⟨p63,hp63,h⟩ := bindo h
 obtain ⟨p64,hp64,h⟩ := bindo h
 obtain ⟨p65,hp65,h⟩ := bindo h
 refine qQ rfl (qR rfl rfl (qS 101 rfl (oL · sc3 rfl hp62 (ldI_out hp63)) (qS 102 rfl (oL · sc3 rfl hp64 (ldI_out hp65)) (qS 103 rfl (oB · rfl rfl rfl) (rE ?_)))))
 try dsimp only [w0,w1,w2,w3]
 rcases ifc h with ⟨hc66,h⟩ | ⟨hc66,h⟩
 ·obtain ⟨p67,hp67,h⟩ := bindo h
  obtain ⟨p68,hp68,h⟩ := bindo h
  refine q_cond_t rfl (.tmp rfl) (decide_eq_true hc66) (qQ rfl (qR rfl rfl (qN rfl (ok_store_s (v := (.bool false)) · sz4 (.tmp rfl) hp67 (.bool _) rfl hp68) (rE ?_))))
  try dsimp only [w0,w1,w2,w3]
  exact q_round_ret rfl h ⟨rfl,rfl⟩
 ·refine q_cond_f rfl (.tmp rfl) (decide_eq_false hc66) (q_skipc rfl (hr_inBlock ?_))
  exact q_round_end h ⟨rfl,rfl⟩
def J17 (D : Dp) (H : Hd) (k : Nat) (y6 : HP) (y181 : Bool) (ds : List Nat) (S : HS) : Option ((Bool) × HS) :=
 (y6.bind fun p105 =>
 ((S.sets p105 [(.bool y181)]).bind fun p106 =>
 ((p106.leave ds).bind fun p107 =>
 (y6.bind fun p108 =>
 ((p107.ldB p108).bind fun p109 =>
 some (p109,p107))))))
theorem J17_snd (hD : DS base W0 D) (hH : HT base W0 β0 H)  {y6 : HP} {y181 : Bool} {ds : List Nat} {S : HS} {p : (Bool) × HS} (h : J17 D H k y6 y181 ds S = some p) : HR base W0 β0 6 none [.inRegion r105 [62],.code c106] ⟨[Ga,Gb,Gc,Gd,Ge,Gf,(.ptr y6),Gh,Gi,Gj,Gk,Gl,Gm,Gn,Go,Gp,Gq,Gr,Gs,Gt,Gu,Gv,Gw,Gx,Gy,Gz,Ka,Kb,Kc,Kd,Ke,Kf,Kg,Kh,Ki,Kj,Kk,Kl,Km,Kn,Ko,Kp,Kq,Kr,Ks,Kt,Ku,Kv,Kw,Kx,Ky,Kz,Ma,Mb,Mc,Md,Me,Mf,Mg,Mh,Mi,Mj,Mk,Ml,Mm,Mn,Mo,Mp,Mq,Mr,Ms,Mt,Mu,Mv,Mw,Mx,My,Mz,Na,Nb,Nc,Nd,Ne,Nf,Ng,Nh,Ni,Nj,Nk,Nl,Nm,Nn,No,Np,Nq,Nr,Ns,Nt,Nu,Nv,Nw,Nx,Ny,Nz,Qa,Qb,Qc,Qd,Qe,Qf,Qg,Qh,Qi,Qj,Qk,Ql,Qm,Qn,Qo,Qp,Qq,Qr,Qs,Qt,Qu,Qv,Qw,Qx,Qy,Qz,Ua,Ub,Uc,Ud,Ue,Uf,Ug,Uh,Ui,Uj,Uk,Ul,Um,Un,Uo,Up,Uq,Ur,Us,Ut,Uu,Uv,Uw,Ux,Uy,Uz,Va,Vb,Vc,Vd,Ve,Vf,Vg,Vh,Vi,Vj,Vk,Vl,Vm,Vn,Vo,Vp,Vq,Vr,Vs,Vt,Vu,Vv,Vw,Vx,Vy,(.bool y181)],ds⟩ S (fun v S1 => v = (.bool p.1) ∧ S1 = p.2) := by
 unfold J17 at h
 obtain ⟨p105,hp105,h⟩ := bindo h
 obtain ⟨p106,hp106,h⟩ := bindo h
 refine qN rfl (ok_store_s (v := (.bool y181)) · sz4 (.tmp rfl) hp105 (.tmp rfl) rfl hp106) (rE ?_)
 try dsimp only [w0,w1,w2,w3]
 obtain ⟨p107,hp107,h⟩ := bindo h
 obtain ⟨p108,hp108,h⟩ := bindo h
 obtain ⟨p109,hp109,h⟩ := bindo h
 cases h
 exact q_ret rfl at_.at_ hp107 (resL1 rfl (.cell rfl hp108 sc4 (ldB_out hp109))) ⟨rfl,rfl⟩
def J16 (D : Dp) (H : Hd) (k : Nat) (y6 : HP) (y13 : HP) (y176 : Bool) (ds : List Nat) (S : HS) : Option ((Bool) × HS) :=
 (if y176 = true then
 ((rooms_Rooms_Of.f D H k y13 1 S).bind fun p103 =>
 ((rollcalllaw20_same.f D H k p103.1 Sl.nil p103.2).bind fun p104 =>
 J17 D H k y6 p104.1 ds p104.2)) else
 J17 D H k y6 false ds S)
theorem J16_snd (hD : DS base W0 D) (hH : HT base W0 β0 H)  {y6 : HP} {y13 : HP} {y176 : Bool} {ds : List Nat} {S : HS} {p : (Bool) × HS} (h : J16 D H k y6 y13 y176 ds S = some p) : HR base W0 β0 6 none [.inRegion r105 [57,58,59,60,61,62],.code c106] ⟨[Ga,Gb,Gc,Gd,Ge,Gf,(.ptr y6),Gh,Gi,Gj,Gk,Gl,Gm,(.ptr y13),Go,Gp,Gq,Gr,Gs,Gt,Gu,Gv,Gw,Gx,Gy,Gz,Ka,Kb,Kc,Kd,Ke,Kf,Kg,Kh,Ki,Kj,Kk,Kl,Km,Kn,Ko,Kp,Kq,Kr,Ks,Kt,Ku,Kv,Kw,Kx,Ky,Kz,Ma,Mb,Mc,Md,Me,Mf,Mg,Mh,Mi,Mj,Mk,Ml,Mm,Mn,Mo,Mp,Mq,Mr,Ms,Mt,Mu,Mv,Mw,Mx,My,Mz,Na,Nb,Nc,Nd,Ne,Nf,Ng,Nh,Ni,Nj,Nk,Nl,Nm,Nn,No,Np,Nq,Nr,Ns,Nt,Nu,Nv,Nw,Nx,Ny,Nz,Qa,Qb,Qc,Qd,Qe,Qf,Qg,Qh,Qi,Qj,Qk,Ql,Qm,Qn,Qo,Qp,Qq,Qr,Qs,Qt,Qu,Qv,Qw,Qx,Qy,Qz,Ua,Ub,Uc,Ud,Ue,Uf,Ug,Uh,Ui,Uj,Uk,Ul,Um,Un,Uo,Up,Uq,Ur,Us,Ut,Uu,Uv,Uw,Ux,Uy,Uz,Va,Vb,Vc,Vd,Ve,Vf,Vg,Vh,Vi,Vj,Vk,Vl,Vm,Vn,Vo,Vp,Vq,Vr,Vs,Vt,(.bool y176),Vv,Vw,Vx,Vy,Vz],ds⟩ S (fun v S1 => v = (.bool p.1) ∧ S1 = p.2) := by
 unfold J16 at h
 refine qS 177 rfl (oM · rfl) ?_
 rcases ifc h with ⟨hc102,h⟩ | ⟨hc102,h⟩
 ·obtain ⟨p103,hp103,h⟩ := bindo h
  refine qG 177 178 rfl hc102 (oM · rfl) (q_call_g (t := 177) (dst := some 179) rfl rfl rfl hc102 (.func _) (.cons (.tmp rfl) (.cons (.int _ _) Evs.nil)) (HInv.static rooms_Rooms_Of.at_ rooms_Rooms_Of.body (rooms_Rooms_Of.snd hD hH hp103)) ?_)
  rintro _ _ ⟨rfl,rfl⟩
  try dsimp only [w0,w1,w2,w3]
  obtain ⟨p104,hp104,h⟩ := bindo h
  refine q_call_g (t := 177) (dst := some 180) rfl rfl rfl hc102 (.func _) (.cons (.tmp rfl) (.cons (.const fun _ => .slNil none) Evs.nil)) (HInv.static rollcalllaw20_same.at_ rollcalllaw20_same.body (rollcalllaw20_same.snd hD hH hp104)) ?_
  rintro _ _ ⟨rfl,rfl⟩
  refine qS 181 rfl (ok_pick_tt · (.tmp rfl) hc102 (.tmp rfl)) ?_
  try dsimp only [w0,w1,w2,w3]
  exact J17_snd hD hH h
 ·refine q_skip (dst := some 178) (t := 177) rfl rfl rfl (bfalse hc102) (q_skip (dst := some 179) (t := 177) rfl rfl rfl (bfalse hc102) ?_)
  try dsimp only [w0,w1,w2,w3]
  refine q_skip (dst := some 180) (t := 177) rfl rfl rfl (bfalse hc102) (qS 181 rfl (ok_pick_ff · (.tmp rfl) (bfalse hc102) (.bool _)) ?_)
  try dsimp only [w0,w1,w2,w3]
  exact J17_snd hD hH h
def J15 (D : Dp) (H : Hd) (k : Nat) (y6 : HP) (y13 : HP) (y171 : Bool) (ds : List Nat) (S : HS) : Option ((Bool) × HS) :=
 (if y171 = true then
 ((rooms_Rooms_All.f y13 S).bind fun p100 =>
 ((rollcalllaw20_same.f D H k p100.1 Sl.nil p100.2).bind fun p101 =>
 J16 D H k y6 y13 p101.1 ds p101.2)) else
 J16 D H k y6 y13 false ds S)
theorem J15_snd (hD : DS base W0 D) (hH : HT base W0 β0 H)  {y6 : HP} {y13 : HP} {y171 : Bool} {ds : List Nat} {S : HS} {p : (Bool) × HS} (h : J15 D H k y6 y13 y171 ds S = some p) : HR base W0 β0 6 none [.inRegion r105 [52,53,54,55,56,57,58,59,60,61,62],.code c106] ⟨[Ga,Gb,Gc,Gd,Ge,Gf,(.ptr y6),Gh,Gi,Gj,Gk,Gl,Gm,(.ptr y13),Go,Gp,Gq,Gr,Gs,Gt,Gu,Gv,Gw,Gx,Gy,Gz,Ka,Kb,Kc,Kd,Ke,Kf,Kg,Kh,Ki,Kj,Kk,Kl,Km,Kn,Ko,Kp,Kq,Kr,Ks,Kt,Ku,Kv,Kw,Kx,Ky,Kz,Ma,Mb,Mc,Md,Me,Mf,Mg,Mh,Mi,Mj,Mk,Ml,Mm,Mn,Mo,Mp,Mq,Mr,Ms,Mt,Mu,Mv,Mw,Mx,My,Mz,Na,Nb,Nc,Nd,Ne,Nf,Ng,Nh,Ni,Nj,Nk,Nl,Nm,Nn,No,Np,Nq,Nr,Ns,Nt,Nu,Nv,Nw,Nx,Ny,Nz,Qa,Qb,Qc,Qd,Qe,Qf,Qg,Qh,Qi,Qj,Qk,Ql,Qm,Qn,Qo,Qp,Qq,Qr,Qs,Qt,Qu,Qv,Qw,Qx,Qy,Qz,Ua,Ub,Uc,Ud,Ue,Uf,Ug,Uh,Ui,Uj,Uk,Ul,Um,Un,Uo,Up,Uq,Ur,Us,Ut,Uu,Uv,Uw,Ux,Uy,Uz,Va,Vb,Vc,Vd,Ve,Vf,Vg,Vh,Vi,Vj,Vk,Vl,Vm,Vn,Vo,(.bool y171),Vq,Vr,Vs,Vt,Vu,Vv,Vw,Vx,Vy,Vz],ds⟩ S (fun v S1 => v = (.bool p.1) ∧ S1 = p.2) := by
 unfold J15 at h
 refine qS 172 rfl (oM · rfl) ?_
 rcases ifc h with ⟨hc99,h⟩ | ⟨hc99,h⟩
 ·obtain ⟨p100,hp100,h⟩ := bindo h
  refine qG 172 173 rfl hc99 (oM · rfl) (q_call_g (t := 172) (dst := some 174) rfl rfl rfl hc99 (.func _) (.cons (.tmp rfl) Evs.nil) (HInv.static rooms_Rooms_All.at_ rooms_Rooms_All.body (rooms_Rooms_All.snd  hp100)) ?_)
  rintro _ _ ⟨rfl,rfl⟩
  obtain ⟨p101,hp101,h⟩ := bindo h
  refine q_call_g (t := 172) (dst := some 175) rfl rfl rfl hc99 (.func _) (.cons (.tmp rfl) (.cons (.const fun _ => .slNil none) Evs.nil)) (HInv.static rollcalllaw20_same.at_ rollcalllaw20_same.body (rollcalllaw20_same.snd hD hH hp101)) ?_
  rintro _ _ ⟨rfl,rfl⟩
  try dsimp only [w0,w1,w2,w3]
  refine qS 176 rfl (ok_pick_tt · (.tmp rfl) hc99 (.tmp rfl)) ?_
  try dsimp only [w0,w1,w2,w3]
  exact J16_snd hD hH h
 ·refine q_skip (dst := some 173) (t := 172) rfl rfl rfl (bfalse hc99) (q_skip (dst := some 174) (t := 172) rfl rfl rfl (bfalse hc99) (q_skip (dst := some 175) (t := 172) rfl rfl rfl (bfalse hc99) ?_))
  try dsimp only [w0,w1,w2,w3]
  refine qS 176 rfl (ok_pick_ff · (.tmp rfl) (bfalse hc99) (.bool _)) ?_
  try dsimp only [w0,w1,w2,w3]
  exact J16_snd hD hH h
def J14 (D : Dp) (H : Hd) (k : Nat) (y6 : HP) (y13 : HP) (y166 : Bool) (ds : List Nat) (S : HS) : Option ((Bool) × HS) :=
 (if y166 = true then
 ((rooms_Rooms_Common.f D H k y13 1 1 S).bind fun p98 =>
 J15 D H k y6 y13 (!p98.1) ds p98.2) else
 J15 D H k y6 y13 false ds S)
theorem J14_snd (hD : DS base W0 D) (hH : HT base W0 β0 H)  {y6 : HP} {y13 : HP} {y166 : Bool} {ds : List Nat} {S : HS} {p : (Bool) × HS} (h : J14 D H k y6 y13 y166 ds S = some p) : HR base W0 β0 6 none [.inRegion r105 [47,48,49,50,51,52,53,54,55,56,57,58,59,60,61,62],.code c106] ⟨[Ga,Gb,Gc,Gd,Ge,Gf,(.ptr y6),Gh,Gi,Gj,Gk,Gl,Gm,(.ptr y13),Go,Gp,Gq,Gr,Gs,Gt,Gu,Gv,Gw,Gx,Gy,Gz,Ka,Kb,Kc,Kd,Ke,Kf,Kg,Kh,Ki,Kj,Kk,Kl,Km,Kn,Ko,Kp,Kq,Kr,Ks,Kt,Ku,Kv,Kw,Kx,Ky,Kz,Ma,Mb,Mc,Md,Me,Mf,Mg,Mh,Mi,Mj,Mk,Ml,Mm,Mn,Mo,Mp,Mq,Mr,Ms,Mt,Mu,Mv,Mw,Mx,My,Mz,Na,Nb,Nc,Nd,Ne,Nf,Ng,Nh,Ni,Nj,Nk,Nl,Nm,Nn,No,Np,Nq,Nr,Ns,Nt,Nu,Nv,Nw,Nx,Ny,Nz,Qa,Qb,Qc,Qd,Qe,Qf,Qg,Qh,Qi,Qj,Qk,Ql,Qm,Qn,Qo,Qp,Qq,Qr,Qs,Qt,Qu,Qv,Qw,Qx,Qy,Qz,Ua,Ub,Uc,Ud,Ue,Uf,Ug,Uh,Ui,Uj,Uk,Ul,Um,Un,Uo,Up,Uq,Ur,Us,Ut,Uu,Uv,Uw,Ux,Uy,Uz,Va,Vb,Vc,Vd,Ve,Vf,Vg,Vh,Vi,Vj,(.bool y166),Vl,Vm,Vn,Vo,Vp,Vq,Vr,Vs,Vt,Vu,Vv,Vw,Vx,Vy,Vz],ds⟩ S (fun v S1 => v = (.bool p.1) ∧ S1 = p.2) := by
 unfold J14 at h
 refine qS 167 rfl (oM · rfl) ?_
 try dsimp only [w0,w1,w2,w3]
 rcases ifc h with ⟨hc97,h⟩ | ⟨hc97,h⟩
 ·obtain ⟨p98,hp98,h⟩ := bindo h
  refine qG 167 168 rfl hc97 (oM · rfl) (q_call_g (t := 167) (dst := some 169) rfl rfl rfl hc97 (.func _) (.cons (.tmp rfl) (.cons (.int _ _) (.cons (.int _ _) Evs.nil))) (HInv.static rooms_Rooms_Common.at_ rooms_Rooms_Common.body (rooms_Rooms_Common.snd hD hH hp98)) ?_)
  rintro _ _ ⟨rfl,rfl⟩
  refine qG 167 170 rfl hc97 (ok_not · (.tmp rfl)) (qS 171 rfl (ok_pick_tt · (.tmp rfl) hc97 (.tmp rfl)) ?_)
  try dsimp only [w0,w1,w2,w3]
  exact J15_snd hD hH h
 ·refine q_skip (dst := some 168) (t := 167) rfl rfl rfl (bfalse hc97) (q_skip (dst := some 169) (t := 167) rfl rfl rfl (bfalse hc97) (q_skip (dst := some 170) (t := 167) rfl rfl rfl (bfalse hc97) (qS 171 rfl (ok_pick_ff · (.tmp rfl) (bfalse hc97) (.bool _)) ?_)))
  try dsimp only [w0,w1,w2,w3]
  exact J15_snd hD hH h
def J13 (D : Dp) (H : Hd) (k : Nat) (y6 : HP) (y13 : HP) (y161 : Bool) (ds : List Nat) (S : HS) : Option ((Bool) × HS) :=
 (if y161 = true then
 ((rooms_Rooms_Len.f y13 S).bind fun p96 =>
 J14 D H k y6 y13 (decide (p96.1 = 0)) ds p96.2) else
 J14 D H k y6 y13 false ds S)
theorem J13_snd (hD : DS base W0 D) (hH : HT base W0 β0 H)  {y6 : HP} {y13 : HP} {y161 : Bool} {ds : List Nat} {S : HS} {p : (Bool) × HS} (h : J13 D H k y6 y13 y161 ds S = some p) : HR base W0 β0 6 none [.inRegion r105 [42,43,44,45,46,47,48,49,50,51,52,53,54,55,56,57,58,59,60,61,62],.code c106] ⟨[Ga,Gb,Gc,Gd,Ge,Gf,(.ptr y6),Gh,Gi,Gj,Gk,Gl,Gm,(.ptr y13),Go,Gp,Gq,Gr,Gs,Gt,Gu,Gv,Gw,Gx,Gy,Gz,Ka,Kb,Kc,Kd,Ke,Kf,Kg,Kh,Ki,Kj,Kk,Kl,Km,Kn,Ko,Kp,Kq,Kr,Ks,Kt,Ku,Kv,Kw,Kx,Ky,Kz,Ma,Mb,Mc,Md,Me,Mf,Mg,Mh,Mi,Mj,Mk,Ml,Mm,Mn,Mo,Mp,Mq,Mr,Ms,Mt,Mu,Mv,Mw,Mx,My,Mz,Na,Nb,Nc,Nd,Ne,Nf,Ng,Nh,Ni,Nj,Nk,Nl,Nm,Nn,No,Np,Nq,Nr,Ns,Nt,Nu,Nv,Nw,Nx,Ny,Nz,Qa,Qb,Qc,Qd,Qe,Qf,Qg,Qh,Qi,Qj,Qk,Ql,Qm,Qn,Qo,Qp,Qq,Qr,Qs,Qt,Qu,Qv,Qw,Qx,Qy,Qz,Ua,Ub,Uc,Ud,Ue,Uf,Ug,Uh,Ui,Uj,Uk,Ul,Um,Un,Uo,Up,Uq,Ur,Us,Ut,Uu,Uv,Uw,Ux,Uy,Uz,Va,Vb,Vc,Vd,Ve,(.bool y161),Vg,Vh,Vi,Vj,Vk,Vl,Vm,Vn,Vo,Vp,Vq,Vr,Vs,Vt,Vu,Vv,Vw,Vx,Vy,Vz],ds⟩ S (fun v S1 => v = (.bool p.1) ∧ S1 = p.2) := by
 unfold J13 at h
 refine qS 162 rfl (oM · rfl) ?_
 rcases ifc h with ⟨hc95,h⟩ | ⟨hc95,h⟩
 ·refine qG 162 163 rfl hc95 (oM · rfl) ?_
  try dsimp only [w0,w1,w2,w3]
  obtain ⟨p96,hp96,h⟩ := bindo h
  refine q_call_g (t := 162) (dst := some 164) rfl rfl rfl hc95 (.func _) (.cons (.tmp rfl) Evs.nil) (HInv.static rooms_Rooms_Len.at_ rooms_Rooms_Len.body (rooms_Rooms_Len.snd  hp96)) ?_
  rintro _ _ ⟨rfl,rfl⟩
  refine qG 162 165 rfl hc95 (oC · rfl rfl) (qS 166 rfl (ok_pick_tt · (.tmp rfl) hc95 (.tmp rfl)) ?_)
  try dsimp only [w0,w1,w2,w3]
  exact J14_snd hD hH h
 ·refine q_skip (dst := some 163) (t := 162) rfl rfl rfl (bfalse hc95) ?_
  try dsimp only [w0,w1,w2,w3]
  refine q_skip (dst := some 164) (t := 162) rfl rfl rfl (bfalse hc95) (q_skip (dst := some 165) (t := 162) rfl rfl rfl (bfalse hc95) (qS 166 rfl (ok_pick_ff · (.tmp rfl) (bfalse hc95) (.bool _)) ?_))
  try dsimp only [w0,w1,w2,w3]
  exact J14_snd hD hH h
def J12 (D : Dp) (H : Hd) (k : Nat) (y6 : HP) (y13 : HP) (y156 : Bool) (ds : List Nat) (S : HS) : Option ((Bool) × HS) :=
 (if y156 = true then
 ((rooms_Rooms_Count.f y13 1 S).bind fun p94 =>
 J13 D H k y6 y13 (decide (p94.1 = 0)) ds p94.2) else
 J13 D H k y6 y13 false ds S)
theorem J12_snd (hD : DS base W0 D) (hH : HT base W0 β0 H)  {y6 : HP} {y13 : HP} {y156 : Bool} {ds : List Nat} {S : HS} {p : (Bool) × HS} (h : J12 D H k y6 y13 y156 ds S = some p) : HR base W0 β0 6 none [.inRegion r105 [37,38,39,40,41,42,43,44,45,46,47,48,49,50,51,52,53,54,55,56,57,58,59,60,61,62],.code c106] ⟨[Ga,Gb,Gc,Gd,Ge,Gf,(.ptr y6),Gh,Gi,Gj,Gk,Gl,Gm,(.ptr y13),Go,Gp,Gq,Gr,Gs,Gt,Gu,Gv,Gw,Gx,Gy,Gz,Ka,Kb,Kc,Kd,Ke,Kf,Kg,Kh,Ki,Kj,Kk,Kl,Km,Kn,Ko,Kp,Kq,Kr,Ks,Kt,Ku,Kv,Kw,Kx,Ky,Kz,Ma,Mb,Mc,Md,Me,Mf,Mg,Mh,Mi,Mj,Mk,Ml,Mm,Mn,Mo,Mp,Mq,Mr,Ms,Mt,Mu,Mv,Mw,Mx,My,Mz,Na,Nb,Nc,Nd,Ne,Nf,Ng,Nh,Ni,Nj,Nk,Nl,Nm,Nn,No,Np,Nq,Nr,Ns,Nt,Nu,Nv,Nw,Nx,Ny,Nz,Qa,Qb,Qc,Qd,Qe,Qf,Qg,Qh,Qi,Qj,Qk,Ql,Qm,Qn,Qo,Qp,Qq,Qr,Qs,Qt,Qu,Qv,Qw,Qx,Qy,Qz,Ua,Ub,Uc,Ud,Ue,Uf,Ug,Uh,Ui,Uj,Uk,Ul,Um,Un,Uo,Up,Uq,Ur,Us,Ut,Uu,Uv,Uw,Ux,Uy,Uz,(.bool y156),Vb,Vc,Vd,Ve,Vf,Vg,Vh,Vi,Vj,Vk,Vl,Vm,Vn,Vo,Vp,Vq,Vr,Vs,Vt,Vu,Vv,Vw,Vx,Vy,Vz],ds⟩ S (fun v S1 => v = (.bool p.1) ∧ S1 = p.2) := by
 unfold J12 at h
 refine qS 157 rfl (oM · rfl) ?_
 rcases ifc h with ⟨hc93,h⟩ | ⟨hc93,h⟩
 ·obtain ⟨p94,hp94,h⟩ := bindo h
  refine qG 157 158 rfl hc93 (oM · rfl) (q_call_g (t := 157) (dst := some 159) rfl rfl rfl hc93 (.func _) (.cons (.tmp rfl) (.cons (.int _ _) Evs.nil)) (HInv.static rooms_Rooms_Count.at_ rooms_Rooms_Count.body (rooms_Rooms_Count.snd  hp94)) ?_)
  rintro _ _ ⟨rfl,rfl⟩
  try dsimp only [w0,w1,w2,w3]
  refine qG 157 160 rfl hc93 (oC · rfl rfl) (qS 161 rfl (ok_pick_tt · (.tmp rfl) hc93 (.tmp rfl)) ?_)
  try dsimp only [w0,w1,w2,w3]
  exact J13_snd hD hH h
 ·refine q_skip (dst := some 158) (t := 157) rfl rfl rfl (bfalse hc93) (q_skip (dst := some 159) (t := 157) rfl rfl rfl (bfalse hc93) ?_)
  try dsimp only [w0,w1,w2,w3]
  refine q_skip (dst := some 160) (t := 157) rfl rfl rfl (bfalse hc93) (qS 161 rfl (ok_pick_ff · (.tmp rfl) (bfalse hc93) (.bool _)) ?_)
  try dsimp only [w0,w1,w2,w3]
  exact J13_snd hD hH h
def J11 (D : Dp) (H : Hd) (k : Nat) (y6 : HP) (y13 : HP) (y151 : Bool) (ds : List Nat) (S : HS) : Option ((Bool) × HS) :=
 (if y151 = true then
 ((rooms_Rooms_Leave.f D H k y13 1 S).bind fun p92 =>
 J12 D H k y6 y13 (decide (p92.1 = 0)) ds p92.2) else
 J12 D H k y6 y13 false ds S)
theorem J11_snd (hD : DS base W0 D) (hH : HT base W0 β0 H)  {y6 : HP} {y13 : HP} {y151 : Bool} {ds : List Nat} {S : HS} {p : (Bool) × HS} (h : J11 D H k y6 y13 y151 ds S = some p) : HR base W0 β0 6 none [.inRegion r105 [32,33,34,35,36,37,38,39,40,41,42,43,44,45,46,47,48,49,50,51,52,53,54,55,56,57,58,59,60,61,62],.code c106] ⟨[Ga,Gb,Gc,Gd,Ge,Gf,(.ptr y6),Gh,Gi,Gj,Gk,Gl,Gm,(.ptr y13),Go,Gp,Gq,Gr,Gs,Gt,Gu,Gv,Gw,Gx,Gy,Gz,Ka,Kb,Kc,Kd,Ke,Kf,Kg,Kh,Ki,Kj,Kk,Kl,Km,Kn,Ko,Kp,Kq,Kr,Ks,Kt,Ku,Kv,Kw,Kx,Ky,Kz,Ma,Mb,Mc,Md,Me,Mf,Mg,Mh,Mi,Mj,Mk,Ml,Mm,Mn,Mo,Mp,Mq,Mr,Ms,Mt,Mu,Mv,Mw,Mx,My,Mz,Na,Nb,Nc,Nd,Ne,Nf,Ng,Nh,Ni,Nj,Nk,Nl,Nm,Nn,No,Np,Nq,Nr,Ns,Nt,Nu,Nv,Nw,Nx,Ny,Nz,Qa,Qb,Qc,Qd,Qe,Qf,Qg,Qh,Qi,Qj,Qk,Ql,Qm,Qn,Qo,Qp,Qq,Qr,Qs,Qt,Qu,Qv,Qw,Qx,Qy,Qz,Ua,Ub,Uc,Ud,Ue,Uf,Ug,Uh,Ui,Uj,Uk,Ul,Um,Un,Uo,Up,Uq,Ur,Us,Ut,Uu,(.bool y151),Uw,Ux,Uy,Uz,Va,Vb,Vc,Vd,Ve,Vf,Vg,Vh,Vi,Vj,Vk,Vl,Vm,Vn,Vo,Vp,Vq,Vr,Vs,Vt,Vu,Vv,Vw,Vx,Vy,Vz],ds⟩ S (fun v S1 => v = (.bool p.1) ∧ S1 = p.2) := by
 unfold J11 at h
 refine qS 152 rfl (oM · rfl) ?_
 rcases ifc h with ⟨hc91,h⟩ | ⟨hc91,h⟩
 ·obtain ⟨p92,hp92,h⟩ := bindo h
  refine qG 152 153 rfl hc91 (oM · rfl) (q_call_g (t := 152) (dst := some 154) rfl rfl rfl hc91 (.func _) (.cons (.tmp rfl) (.cons (.int _ _) Evs.nil)) (HInv.static rooms_Rooms_Leave.at_ rooms_Rooms_Leave.body (rooms_Rooms_Leave.snd hD hH hp92)) ?_)
  rintro _ _ ⟨rfl,rfl⟩
  refine qG 152 155 rfl hc91 (oC · rfl rfl) ?_
  try dsimp only [w0,w1,w2,w3]
  refine qS 156 rfl (ok_pick_tt · (.tmp rfl) hc91 (.tmp rfl)) ?_
  try dsimp only [w0,w1,w2,w3]
  exact J12_snd hD hH h
 ·refine q_skip (dst := some 153) (t := 152) rfl rfl rfl (bfalse hc91) (q_skip (dst := some 154) (t := 152) rfl rfl rfl (bfalse hc91) (q_skip (dst := some 155) (t := 152) rfl rfl rfl (bfalse hc91) ?_))
  try dsimp only [w0,w1,w2,w3]
  refine qS 156 rfl (ok_pick_ff · (.tmp rfl) (bfalse hc91) (.bool _)) ?_
  try dsimp only [w0,w1,w2,w3]
  exact J12_snd hD hH h
def J10 (D : Dp) (H : Hd) (k : Nat) (y6 : HP) (y13 : HP) (y146 : Bool) (ds : List Nat) (S : HS) : Option ((Bool) × HS) :=
 (if y146 = true then
 ((rooms_Rooms_Part.f D H k y13 1 ([35,97] : List UInt8) S).bind fun p90 =>
 J11 D H k y6 y13 (!p90.1) ds p90.2) else
 J11 D H k y6 y13 false ds S)
theorem J10_snd (hD : DS base W0 D) (hH : HT base W0 β0 H)  {y6 : HP} {y13 : HP} {y146 : Bool} {ds : List Nat} {S : HS} {p : (Bool) × HS} (h : J10 D H k y6 y13 y146 ds S = some p) : HR base W0 β0 6 none [.inRegion r105 [27,28,29,30,31,32,33,34,35,36,37,38,39,40,41,42,43,44,45,46,47,48,49,50,51,52,53,54,55,56,57,58,59,60,61,62],.code c106] ⟨[Ga,Gb,Gc,Gd,Ge,Gf,(.ptr y6),Gh,Gi,Gj,Gk,Gl,Gm,(.ptr y13),Go,Gp,Gq,Gr,Gs,Gt,Gu,Gv,Gw,Gx,Gy,Gz,Ka,Kb,Kc,Kd,Ke,Kf,Kg,Kh,Ki,Kj,Kk,Kl,Km,Kn,Ko,Kp,Kq,Kr,Ks,Kt,Ku,Kv,Kw,Kx,Ky,Kz,Ma,Mb,Mc,Md,Me,Mf,Mg,Mh,Mi,Mj,Mk,Ml,Mm,Mn,Mo,Mp,Mq,Mr,Ms,Mt,Mu,Mv,Mw,Mx,My,Mz,Na,Nb,Nc,Nd,Ne,Nf,Ng,Nh,Ni,Nj,Nk,Nl,Nm,Nn,No,Np,Nq,Nr,Ns,Nt,Nu,Nv,Nw,Nx,Ny,Nz,Qa,Qb,Qc,Qd,Qe,Qf,Qg,Qh,Qi,Qj,Qk,Ql,Qm,Qn,Qo,Qp,Qq,Qr,Qs,Qt,Qu,Qv,Qw,Qx,Qy,Qz,Ua,Ub,Uc,Ud,Ue,Uf,Ug,Uh,Ui,Uj,Uk,Ul,Um,Un,Uo,Up,(.bool y146),Ur,Us,Ut,Uu,Uv,Uw,Ux,Uy,Uz,Va,Vb,Vc,Vd,Ve,Vf,Vg,Vh,Vi,Vj,Vk,Vl,Vm,Vn,Vo,Vp,Vq,Vr,Vs,Vt,Vu,Vv,Vw,Vx,Vy,Vz],ds⟩ S (fun v S1 => v = (.bool p.1) ∧ S1 = p.2) := by
 unfold J10 at h
 refine qS 147 rfl (oM · rfl) ?_
 try dsimp only [w0,w1,w2,w3]
 rcases ifc h with ⟨hc89,h⟩ | ⟨hc89,h⟩
 ·obtain ⟨p90,hp90,h⟩ := bindo h
  refine qG 147 148 rfl hc89 (oM · rfl) (q_call_g (t := 147) (dst := some 149) rfl rfl rfl hc89 (.func _) (.cons (.tmp rfl) (.cons (.int _ _) (.cons (.str _) Evs.nil))) (HInv.static rooms_Rooms_Part.at_ rooms_Rooms_Part.body (rooms_Rooms_Part.snd hD hH hp90)) ?_)
  rintro _ _ ⟨rfl,rfl⟩
  refine qG 147 150 rfl hc89 (ok_not · (.tmp rfl)) (qS 151 rfl (ok_pick_tt · (.tmp rfl) hc89 (.tmp rfl)) ?_)
  try dsimp only [w0,w1,w2,w3]
  exact J11_snd hD hH h
 ·refine q_skip (dst := some 148) (t := 147) rfl rfl rfl (bfalse hc89) (q_skip (dst := some 149) (t := 147) rfl rfl rfl (bfalse hc89) (q_skip (dst := some 150) (t := 147) rfl rfl rfl (bfalse hc89) (qS 151 rfl (ok_pick_ff · (.tmp rfl) (bfalse hc89) (.bool _)) ?_)))
  try dsimp only [w0,w1,w2,w3]
  exact J11_snd hD hH h
def J9 (D : Dp) (H : Hd) (k : Nat) (y6 : HP) (y13 : HP) (y18 : Sl) (y141 : Bool) (ds : List Nat) (S : HS) : Option ((Bool) × HS) :=
 (if y141 = true then
 J10 D H k y6 y13 (decide ((Sl.len y18 : Int) = 0)) ds S else
 J10 D H k y6 y13 false ds S)
theorem J9_snd (hD : DS base W0 D) (hH : HT base W0 β0 H)  {y6 : HP} {y13 : HP} {y18 : Sl} {y141 : Bool} {ds : List Nat} {S : HS} {p : (Bool) × HS} (h : J9 D H k y6 y13 y18 y141 ds S = some p) : HR base W0 β0 6 none [.inRegion r105 [22,23,24,25,26,27,28,29,30,31,32,33,34,35,36,37,38,39,40,41,42,43,44,45,46,47,48,49,50,51,52,53,54,55,56,57,58,59,60,61,62],.code c106] ⟨[Ga,Gb,Gc,Gd,Ge,Gf,(.ptr y6),Gh,Gi,Gj,Gk,Gl,Gm,(.ptr y13),Go,Gp,Gq,Gr,(Sl.hv y18),Gt,Gu,Gv,Gw,Gx,Gy,Gz,Ka,Kb,Kc,Kd,Ke,Kf,Kg,Kh,Ki,Kj,Kk,Kl,Km,Kn,Ko,Kp,Kq,Kr,Ks,Kt,Ku,Kv,Kw,Kx,Ky,Kz,Ma,Mb,Mc,Md,Me,Mf,Mg,Mh,Mi,Mj,Mk,Ml,Mm,Mn,Mo,Mp,Mq,Mr,Ms,Mt,Mu,Mv,Mw,Mx,My,Mz,Na,Nb,Nc,Nd,Ne,Nf,Ng,Nh,Ni,Nj,Nk,Nl,Nm,Nn,No,Np,Nq,Nr,Ns,Nt,Nu,Nv,Nw,Nx,Ny,Nz,Qa,Qb,Qc,Qd,Qe,Qf,Qg,Qh,Qi,Qj,Qk,Ql,Qm,Qn,Qo,Qp,Qq,Qr,Qs,Qt,Qu,Qv,Qw,Qx,Qy,Qz,Ua,Ub,Uc,Ud,Ue,Uf,Ug,Uh,Ui,Uj,Uk,(.bool y141),Um,Un,Uo,Up,Uq,Ur,Us,Ut,Uu,Uv,Uw,Ux,Uy,Uz,Va,Vb,Vc,Vd,Ve,Vf,Vg,Vh,Vi,Vj,Vk,Vl,Vm,Vn,Vo,Vp,Vq,Vr,Vs,Vt,Vu,Vv,Vw,Vx,Vy,Vz],ds⟩ S (fun v S1 => v = (.bool p.1) ∧ S1 = p.2) := by
 unfold J9 at h
 refine qS 142 rfl (oM · rfl) ?_
 rcases ifc h with ⟨hc88,h⟩ | ⟨hc88,h⟩
 ·refine qG 142 143 rfl hc88 (oM · rfl) ?_
  try dsimp only [w0,w1,w2,w3]
  refine qG 142 144 rfl hc88 (ok_len_sl (q := Sl.a y18) (n := Sl.len y18) (z := Sl.cap y18) · rfl tu42 (.tmp rfl)) (qG 142 145 rfl hc88 (oC · rfl rfl) (qS 146 rfl (ok_pick_tt · (.tmp rfl) hc88 (.tmp rfl)) ?_))
  try dsimp only [w0,w1,w2,w3]
  exact J10_snd hD hH h
 ·refine q_skip (dst := some 143) (t := 142) rfl rfl rfl (bfalse hc88) ?_
  try dsimp only [w0,w1,w2,w3]
  refine q_skip (dst := some 144) (t := 142) rfl rfl rfl (bfalse hc88) (q_skip (dst := some 145) (t := 142) rfl rfl rfl (bfalse hc88) (qS 146 rfl (ok_pick_ff · (.tmp rfl) (bfalse hc88) (.bool _)) ?_))
  try dsimp only [w0,w1,w2,w3]
  exact J10_snd hD hH h
def J8 (D : Dp) (H : Hd) (k : Nat) (y6 : HP) (y13 : HP) (y18 : Sl) (y19 : Bool) (y138 : Bool) (ds : List Nat) (S : HS) : Option ((Bool) × HS) :=
 (if y138 = true then
 J9 D H k y6 y13 y18 y19 ds S else
 J9 D H k y6 y13 y18 false ds S)
theorem J8_snd (hD : DS base W0 D) (hH : HT base W0 β0 H)  {y6 : HP} {y13 : HP} {y18 : Sl} {y19 : Bool} {y138 : Bool} {ds : List Nat} {S : HS} {p : (Bool) × HS} (h : J8 D H k y6 y13 y18 y19 y138 ds S = some p) : HR base W0 β0 6 none [.inRegion r105 [19,20,21,22,23,24,25,26,27,28,29,30,31,32,33,34,35,36,37,38,39,40,41,42,43,44,45,46,47,48,49,50,51,52,53,54,55,56,57,58,59,60,61,62],.code c106] ⟨[Ga,Gb,Gc,Gd,Ge,Gf,(.ptr y6),Gh,Gi,Gj,Gk,Gl,Gm,(.ptr y13),Go,Gp,Gq,Gr,(Sl.hv y18),(.bool y19),Gu,Gv,Gw,Gx,Gy,Gz,Ka,Kb,Kc,Kd,Ke,Kf,Kg,Kh,Ki,Kj,Kk,Kl,Km,Kn,Ko,Kp,Kq,Kr,Ks,Kt,Ku,Kv,Kw,Kx,Ky,Kz,Ma,Mb,Mc,Md,Me,Mf,Mg,Mh,Mi,Mj,Mk,Ml,Mm,Mn,Mo,Mp,Mq,Mr,Ms,Mt,Mu,Mv,Mw,Mx,My,Mz,Na,Nb,Nc,Nd,Ne,Nf,Ng,Nh,Ni,Nj,Nk,Nl,Nm,Nn,No,Np,Nq,Nr,Ns,Nt,Nu,Nv,Nw,Nx,Ny,Nz,Qa,Qb,Qc,Qd,Qe,Qf,Qg,Qh,Qi,Qj,Qk,Ql,Qm,Qn,Qo,Qp,Qq,Qr,Qs,Qt,Qu,Qv,Qw,Qx,Qy,Qz,Ua,Ub,Uc,Ud,Ue,Uf,Ug,Uh,(.bool y138),Uj,Uk,Ul,Um,Un,Uo,Up,Uq,Ur,Us,Ut,Uu,Uv,Uw,Ux,Uy,Uz,Va,Vb,Vc,Vd,Ve,Vf,Vg,Vh,Vi,Vj,Vk,Vl,Vm,Vn,Vo,Vp,Vq,Vr,Vs,Vt,Vu,Vv,Vw,Vx,Vy,Vz],ds⟩ S (fun v S1 => v = (.bool p.1) ∧ S1 = p.2) := by
 unfold J8 at h
 refine qS 139 rfl (oM · rfl) ?_
 try dsimp only [w0,w1,w2,w3]
 rcases ifc h with ⟨hc87,h⟩ | ⟨hc87,h⟩
 ·refine qG 139 140 rfl hc87 (oM · rfl) (qS 141 rfl (ok_pick_tt · (.tmp rfl) hc87 (.tmp rfl)) ?_)
  try dsimp only [w0,w1,w2,w3]
  exact J9_snd hD hH h
 ·refine q_skip (dst := some 140) (t := 139) rfl rfl rfl (bfalse hc87) (qS 141 rfl (ok_pick_ff · (.tmp rfl) (bfalse hc87) (.bool _)) ?_)
  try dsimp only [w0,w1,w2,w3]
  exact J9_snd hD hH h
def J7 (D : Dp) (H : Hd) (k : Nat) (y6 : HP) (y13 : HP) (y17 : Int) (y18 : Sl) (y19 : Bool) (y134 : Bool) (ds : List Nat) (S : HS) : Option ((Bool) × HS) :=
 (if y134 = true then
 J8 D H k y6 y13 y18 y19 (decide (y17 = 405)) ds S else
 J8 D H k y6 y13 y18 y19 false ds S)
theorem J7_snd (hD : DS base W0 D) (hH : HT base W0 β0 H)  {y6 : HP} {y13 : HP} {y17 : Int} {y18 : Sl} {y19 : Bool} {y134 : Bool} {ds : List Nat} {S : HS} {p : (Bool) × HS} (h : J7 D H k y6 y13 y17 y18 y19 y134 ds S = some p) : HR base W0 β0 6 none [.inRegion r105 [15,16,17,18,19,20,21,22,23,24,25,26,27,28,29,30,31,32,33,34,35,36,37,38,39,40,41,42,43,44,45,46,47,48,49,50,51,52,53,54,55,56,57,58,59,60,61,62],.code c106] ⟨[Ga,Gb,Gc,Gd,Ge,Gf,(.ptr y6),Gh,Gi,Gj,Gk,Gl,Gm,(.ptr y13),Go,Gp,Gq,(.int .i64 y17),(Sl.hv y18),(.bool y19),Gu,Gv,Gw,Gx,Gy,Gz,Ka,Kb,Kc,Kd,Ke,Kf,Kg,Kh,Ki,Kj,Kk,Kl,Km,Kn,Ko,Kp,Kq,Kr,Ks,Kt,Ku,Kv,Kw,Kx,Ky,Kz,Ma,Mb,Mc,Md,Me,Mf,Mg,Mh,Mi,Mj,Mk,Ml,Mm,Mn,Mo,Mp,Mq,Mr,Ms,Mt,Mu,Mv,Mw,Mx,My,Mz,Na,Nb,Nc,Nd,Ne,Nf,Ng,Nh,Ni,Nj,Nk,Nl,Nm,Nn,No,Np,Nq,Nr,Ns,Nt,Nu,Nv,Nw,Nx,Ny,Nz,Qa,Qb,Qc,Qd,Qe,Qf,Qg,Qh,Qi,Qj,Qk,Ql,Qm,Qn,Qo,Qp,Qq,Qr,Qs,Qt,Qu,Qv,Qw,Qx,Qy,Qz,Ua,Ub,Uc,Ud,(.bool y134),Uf,Ug,Uh,Ui,Uj,Uk,Ul,Um,Un,Uo,Up,Uq,Ur,Us,Ut,Uu,Uv,Uw,Ux,Uy,Uz,Va,Vb,Vc,Vd,Ve,Vf,Vg,Vh,Vi,Vj,Vk,Vl,Vm,Vn,Vo,Vp,Vq,Vr,Vs,Vt,Vu,Vv,Vw,Vx,Vy,Vz],ds⟩ S (fun v S1 => v = (.bool p.1) ∧ S1 = p.2) := by
 unfold J7 at h
 refine qS 135 rfl (oM · rfl) ?_
 try dsimp only [w0,w1,w2,w3]
 rcases ifc h with ⟨hc86,h⟩ | ⟨hc86,h⟩
 ·refine qG 135 136 rfl hc86 (oM · rfl) (qG 135 137 rfl hc86 (oC · rfl rfl) (qS 138 rfl (ok_pick_tt · (.tmp rfl) hc86 (.tmp rfl)) ?_))
  try dsimp only [w0,w1,w2,w3]
  exact J8_snd hD hH h
 ·refine q_skip (dst := some 136) (t := 135) rfl rfl rfl (bfalse hc86) (q_skip (dst := some 137) (t := 135) rfl rfl rfl (bfalse hc86) (qS 138 rfl (ok_pick_ff · (.tmp rfl) (bfalse hc86) (.bool _)) ?_))
  try dsimp only [w0,w1,w2,w3]
  exact J8_snd hD hH h
def J6 (D : Dp) (H : Hd) (k : Nat) (y6 : HP) (y13 : HP) (y16 : HP) (y17 : Int) (y18 : Sl) (y19 : Bool) (y130 : Bool) (ds : List Nat) (S : HS) : Option ((Bool) × HS) :=
 (if y130 = true then
 J7 D H k y6 y13 y17 y18 y19 (Option.isNone y16) ds S else
 J7 D H k y6 y13 y17 y18 y19 false ds S)
theorem J6_snd (hD : DS base W0 D) (hH : HT base W0 β0 H)  {y6 : HP} {y13 : HP} {y16 : HP} {y17 : Int} {y18 : Sl} {y19 : Bool} {y130 : Bool} {ds : List Nat} {S : HS} {p : (Bool) × HS} (h : J6 D H k y6 y13 y16 y17 y18 y19 y130 ds S = some p) : HR base W0 β0 6 none [.inRegion r105 [11,12,13,14,15,16,17,18,19,20,21,22,23,24,25,26,27,28,29,30,31,32,33,34,35,36,37,38,39,40,41,42,43,44,45,46,47,48,49,50,51,52,53,54,55,56,57,58,59,60,61,62],.code c106] ⟨[Ga,Gb,Gc,Gd,Ge,Gf,(.ptr y6),Gh,Gi,Gj,Gk,Gl,Gm,(.ptr y13),Go,Gp,(.ptr y16),(.int .i64 y17),(Sl.hv y18),(.bool y19),Gu,Gv,Gw,Gx,Gy,Gz,Ka,Kb,Kc,Kd,Ke,Kf,Kg,Kh,Ki,Kj,Kk,Kl,Km,Kn,Ko,Kp,Kq,Kr,Ks,Kt,Ku,Kv,Kw,Kx,Ky,Kz,Ma,Mb,Mc,Md,Me,Mf,Mg,Mh,Mi,Mj,Mk,Ml,Mm,Mn,Mo,Mp,Mq,Mr,Ms,Mt,Mu,Mv,Mw,Mx,My,Mz,Na,Nb,Nc,Nd,Ne,Nf,Ng,Nh,Ni,Nj,Nk,Nl,Nm,Nn,No,Np,Nq,Nr,Ns,Nt,Nu,Nv,Nw,Nx,Ny,Nz,Qa,Qb,Qc,Qd,Qe,Qf,Qg,Qh,Qi,Qj,Qk,Ql,Qm,Qn,Qo,Qp,Qq,Qr,Qs,Qt,Qu,Qv,Qw,Qx,Qy,Qz,(.bool y130),Ub,Uc,Ud,Ue,Uf,Ug,Uh,Ui,Uj,Uk,Ul,Um,Un,Uo,Up,Uq,Ur,Us,Ut,Uu,Uv,Uw,Ux,Uy,Uz,Va,Vb,Vc,Vd,Ve,Vf,Vg,Vh,Vi,Vj,Vk,Vl,Vm,Vn,Vo,Vp,Vq,Vr,Vs,Vt,Vu,Vv,Vw,Vx,Vy,Vz],ds⟩ S (fun v S1 => v = (.bool p.1) ∧ S1 = p.2) := by
 unfold J6 at h
 refine qS 131 rfl (oM · rfl) ?_
 try dsimp only [w0,w1,w2,w3]
 rcases ifc h with ⟨hc85,h⟩ | ⟨hc85,h⟩
 ·refine qG 131 132 rfl hc85 (oM · rfl) (qG 131 133 rfl hc85 (ok_nil_ptr · tu36 (.tmp rfl) (.inl ⟨rfl,rfl⟩)) (qS 134 rfl (ok_pick_tt · (.tmp rfl) hc85 (.tmp rfl)) ?_))
  try dsimp only [w0,w1,w2,w3]
  exact J7_snd hD hH h
 ·refine q_skip (dst := some 132) (t := 131) rfl rfl rfl (bfalse hc85) (q_skip (dst := some 133) (t := 131) rfl rfl rfl (bfalse hc85) (qS 134 rfl (ok_pick_ff · (.tmp rfl) (bfalse hc85) (.bool _)) ?_))
  try dsimp only [w0,w1,w2,w3]
  exact J7_snd hD hH h
def J5 (D : Dp) (H : Hd) (k : Nat) (y6 : HP) (y13 : HP) (y15 : Bool) (y16 : HP) (y17 : Int) (y18 : Sl) (y19 : Bool) (y126 : Bool) (ds : List Nat) (S : HS) : Option ((Bool) × HS) :=
 (if y126 = true then
 J6 D H k y6 y13 y16 y17 y18 y19 (!y15) ds S else
 J6 D H k y6 y13 y16 y17 y18 y19 false ds S)
theorem J5_snd (hD : DS base W0 D) (hH : HT base W0 β0 H)  {y6 : HP} {y13 : HP} {y15 : Bool} {y16 : HP} {y17 : Int} {y18 : Sl} {y19 : Bool} {y126 : Bool} {ds : List Nat} {S : HS} {p : (Bool) × HS} (h : J5 D H k y6 y13 y15 y16 y17 y18 y19 y126 ds S = some p) : HR base W0 β0 6 none [.inRegion r105 [7,8,9,10,11,12,13,14,15,16,17,18,19,20,21,22,23,24,25,26,27,28,29,30,31,32,33,34,35,36,37,38,39,40,41,42,43,44,45,46,47,48,49,50,51,52,53,54,55,56,57,58,59,60,61,62],.code c106] ⟨[Ga,Gb,Gc,Gd,Ge,Gf,(.ptr y6),Gh,Gi,Gj,Gk,Gl,Gm,(.ptr y13),Go,(.bool y15),(.ptr y16),(.int .i64 y17),(Sl.hv y18),(.bool y19),Gu,Gv,Gw,Gx,Gy,Gz,Ka,Kb,Kc,Kd,Ke,Kf,Kg,Kh,Ki,Kj,Kk,Kl,Km,Kn,Ko,Kp,Kq,Kr,Ks,Kt,Ku,Kv,Kw,Kx,Ky,Kz,Ma,Mb,Mc,Md,Me,Mf,Mg,Mh,Mi,Mj,Mk,Ml,Mm,Mn,Mo,Mp,Mq,Mr,Ms,Mt,Mu,Mv,Mw,Mx,My,Mz,Na,Nb,Nc,Nd,Ne,Nf,Ng,Nh,Ni,Nj,Nk,Nl,Nm,Nn,No,Np,Nq,Nr,Ns,Nt,Nu,Nv,Nw,Nx,Ny,Nz,Qa,Qb,Qc,Qd,Qe,Qf,Qg,Qh,Qi,Qj,Qk,Ql,Qm,Qn,Qo,Qp,Qq,Qr,Qs,Qt,Qu,Qv,(.bool y126),Qx,Qy,Qz,Ua,Ub,Uc,Ud,Ue,Uf,Ug,Uh,Ui,Uj,Uk,Ul,Um,Un,Uo,Up,Uq,Ur,Us,Ut,Uu,Uv,Uw,Ux,Uy,Uz,Va,Vb,Vc,Vd,Ve,Vf,Vg,Vh,Vi,Vj,Vk,Vl,Vm,Vn,Vo,Vp,Vq,Vr,Vs,Vt,Vu,Vv,Vw,Vx,Vy,Vz],ds⟩ S (fun v S1 => v = (.bool p.1) ∧ S1 = p.2) := by
 unfold J5 at h
 refine qS 127 rfl (oM · rfl) ?_
 try dsimp only [w0,w1,w2,w3]
 rcases ifc h with ⟨hc84,h⟩ | ⟨hc84,h⟩
 ·refine qG 127 128 rfl hc84 (oM · rfl) (qG 127 129 rfl hc84 (ok_not · (.tmp rfl)) (qS 130 rfl (ok_pick_tt · (.tmp rfl) hc84 (.tmp rfl)) ?_))
  try dsimp only [w0,w1,w2,w3]
  exact J6_snd hD hH h
 ·refine q_skip (dst := some 128) (t := 127) rfl rfl rfl (bfalse hc84) (q_skip (dst := some 129) (t := 127) rfl rfl rfl (bfalse hc84) (qS 130 rfl (ok_pick_ff · (.tmp rfl) (bfalse hc84) (.bool _)) ?_))
  try dsimp only [w0,w1,w2,w3]
  exact J6_snd hD hH h
def J3 (D : Dp) (H : Hd) (k : Nat) (y6 : HP) (y9 : HV) (y10 : HP) (y96 : Bool) (ds : List Nat) (S : HS) : Option ((Bool) × HS) :=
 (if y96 = true then
 (y6.bind fun p50 =>
 ((S.sets p50 [(.bool false)]).bind fun p51 =>
 ((p51.leave ds).bind fun p52 =>
 (y6.bind fun p53 =>
 ((p52.ldB p53).bind fun p54 =>
 some (p54,p52)))))) else
 (letv (HS.new S (.cells 1 [[(.int .i64 0)]] true)) fun p55 =>
 ((p55.sets (HA.cell0 S.next) [(.int .i64 0)]).bind fun p56 =>
 ((D (Hd.set H (HS.next p56 + 1) fun vs T =>
 ((T.lp (HS.next p56 + 1)).bind fun u71 =>
 ((args1 vs).bind fun ar69 =>
 ((dP ar69).bind fun p70 =>
 (J4 D H k (HS.next p56 + 1) y6 y10 (some (HA.cell0 S.next)) T))))) y9 [.fn (.yield (HS.next p56 + 1)) [] []] (HS.new (HS.new p56 .defer) (.loop .ready none))).bind fun p72 =>
 ((p72.2.finish (HS.next p56 + 1)).bind fun p73 =>
 ((pcode p73.1).bind fun n74 =>
 (if n74 = 0 then
 ((rooms_Rooms_Get.f D H k none ([35,97] : List UInt8) p73.2).bind fun p76 =>
 ((rooms_Rooms_Join.f D H k none 1 ([35,97] : List UInt8) p76.2).bind fun p77 =>
 ((rooms_Rooms_Peers.f D H k none 1 p77.2).bind fun p78 =>
 ((rollcalllaw20_numbers.f D H p78.1 0 p78.2).bind fun p79 =>
 ((p79.2.ldI .i64 (HA.cell0 S.next)).bind fun p80 =>
 (y10.bind fun p81 =>
 ((p79.2.ldI .i64 p81).bind fun p82 =>
 (if p80 = p82 then
 J5 D H k y6 none p76.1.2 p77.1.1 p77.1.2 p79.1.1 p79.1.2 (Option.isNone p76.1.1) (HS.next p56 :: ds) p79.2 else
 J5 D H k y6 none p76.1.2 p77.1.1 p77.1.2 p79.1.1 p79.1.2 false (HS.next p56 :: ds) p79.2)))))))) else
 (if n74 = 1 then
 ((p73.2.leave (HS.next p56 :: ds)).bind fun p111 =>
 (y6.bind fun p112 =>
 ((p111.ldB p112).bind fun p113 =>
 some (p113,p111)))) else
 none))))))))
theorem J3_snd (hD : DS base W0 D) (hH : HT base W0 β0 H)  {y6 : HP} {y9 : HV} {y10 : HP} {y96 : Bool} {ds : List Nat} {S : HS} {p : (Bool) × HS} (h : J3 D H k y6 y9 y10 y96 ds S = some p) : HR base W0 β0 6 none [.code c73,.code c78] ⟨[Ga,Gb,Gc,Gd,Ge,Gf,(.ptr y6),Gh,Gi,y9,(.ptr y10),Gl,Gm,Gn,Go,Gp,Gq,Gr,Gs,Gt,Gu,Gv,Gw,Gx,Gy,Gz,Ka,Kb,Kc,Kd,Ke,Kf,Kg,Kh,Ki,Kj,Kk,Kl,Km,Kn,Ko,Kp,Kq,Kr,Ks,Kt,Ku,Kv,Kw,Kx,Ky,Kz,Ma,Mb,Mc,Md,Me,Mf,Mg,Mh,Mi,Mj,Mk,Ml,Mm,Mn,Mo,Mp,Mq,Mr,Ms,Mt,Mu,Mv,Mw,Mx,My,Mz,Na,Nb,Nc,Nd,Ne,Nf,Ng,Nh,Ni,Nj,Nk,Nl,Nm,Nn,No,Np,Nq,Nr,(.bool y96),Nt,Nu,Nv,Nw,Nx,Ny,Nz,Qa,Qb,Qc,Qd,Qe,Qf,Qg,Qh,Qi,Qj,Qk,Ql,Qm,Qn,Qo,Qp,Qq,Qr,Qs,Qt,Qu,Qv,Qw,Qx,Qy,Qz,Ua,Ub,Uc,Ud,Ue,Uf,Ug,Uh,Ui,Uj,Uk,Ul,Um,Un,Uo,Up,Uq,Ur,Us,Ut,Uu,Uv,Uw,Ux,Uy,Uz,Va,Vb,Vc,Vd,Ve,Vf,Vg,Vh,Vi,Vj,Vk,Vl,Vm,Vn,Vo,Vp,Vq,Vr,Vs,Vt,Vu,Vv,Vw,Vx,Vy,Vz],ds⟩ S (fun v S1 => v = (.bool p.1) ∧ S1 = p.2) := by
 unfold J3 at h
 rcases ifc h with ⟨hc49,h⟩ | ⟨hc49,h⟩
 ·obtain ⟨p50,hp50,h⟩ := bindo h
  obtain ⟨p51,hp51,h⟩ := bindo h
  refine q_cond_t rfl (.tmp rfl) hc49 (qQ rfl (qR rfl rfl (qN rfl (ok_store_s (v := (.bool false)) · sz4 (.tmp rfl) hp50 (.bool _) rfl hp51) (rE ?_))))
  try dsimp only [w0,w1,w2,w3]
  obtain ⟨p52,hp52,h⟩ := bindo h
  obtain ⟨p53,hp53,h⟩ := bindo h
  obtain ⟨p54,hp54,h⟩ := bindo h
  cases h
  exact q_ret rfl at_.at_ hp52 (resL1 rfl (.cell rfl hp53 sc4 (ldB_out hp54))) ⟨rfl,rfl⟩
 ·obtain ⟨p55,hp55,h⟩ := leto h
  obtain ⟨p56,hp56,h⟩ := bindo h
  refine q_cond_f rfl (.tmp rfl) (bfalse hc49) (q_skipc rfl (qQ rfl (qR rfl rfl (qS 12 rfl (ok_alloc_e · zi3 zr3 (by decide) rfl hp55) (qN rfl (ok_store_s (v := (.int .i64 0)) · sz3 (.tmp rfl) rfl (.int _ _) rfl hp56) (rE ?_))))))
  try dsimp only [w0,w1,w2,w3]
  refine qQ rfl (qQ rfl (qR rfl rfl (qS 97 rfl (oM · rfl) (rE ?_))))
  try dsimp only [w0,w1,w2,w3]
  obtain ⟨p72,hp72,h⟩ := bindo h
  obtain ⟨p73,hp73,h⟩ := bindo h
  obtain ⟨n74,hn74,h⟩ := bindo h
  refine q_block rfl ?_
  refine q_range (D := D) (H := H) rfl (.tmp rfl) hD hH hp72 hp73 ?_ ?_
  ·intro β1 hle hLA vs T u T' hr
   obtain ⟨u71,hu71,hr⟩ := bindo hr
   obtain ⟨ar69,har69,hr⟩ := bindo hr
   obtain ⟨p70,hp70,hr⟩ := bindo hr
   rw [args1_out har69]
   refine q_yield2 hLA hu71 rfl rfl ?_
   rw [dP_out hp70]
   simp only [HAct.params,List.set_cons_zero,List.set_cons_succ]
   exact J4_snd hD (hH.up hle) hr
  ·rcases ifc h with ⟨hc75,h⟩ | ⟨hc75,h⟩
   ·rw [pcode0 hn74 hc75]
    simp only [jumped_none,jumped_some]
    refine hr_inBlock (qQ rfl (qR rfl rfl (qS 13 rfl (ok_assign · (.const fun _ => .ptrNil)) (rE ?_))))
    try dsimp only [w0,w1,w2,w3]
    obtain ⟨p76,hp76,h⟩ := bindo h
    refine qQ rfl (qR rfl rfl (qS 105 rfl (oM · rfl) (q_call (dst := some 106) rfl (.func _) (.cons (.tmp rfl) (.cons (.str _) Evs.nil)) (HInv.static rooms_Rooms_Get.at_ rooms_Rooms_Get.body (rooms_Rooms_Get.snd hD hH hp76)) ?_)))
    rintro _ _ ⟨rfl,rfl⟩
    refine qS 104 rfl (oM · rfl) (qS 107 rfl (ok_extract · (.tmp rfl) rfl) ?_)
    try dsimp only [w0,w1,w2,w3]
    refine qS 108 rfl (ok_extract · (.tmp rfl) rfl) (qS 14 rfl (oA · rfl) (qS 15 rfl (oA · rfl) (rE ?_)))
    try dsimp only [w0,w1,w2,w3]
    obtain ⟨p77,hp77,h⟩ := bindo h
    refine qQ rfl (qR rfl rfl (qS 110 rfl (oM · rfl) (q_call (dst := some 111) rfl (.func _) (.cons (.tmp rfl) (.cons (.int _ _) (.cons (.str _) Evs.nil))) (HInv.static rooms_Rooms_Join.at_ rooms_Rooms_Join.body (rooms_Rooms_Join.snd hD hH hp77)) ?_)))
    rintro _ _ ⟨rfl,rfl⟩
    refine qS 109 rfl (oM · rfl) (qS 112 rfl (ok_extract · (.tmp rfl) rfl) ?_)
    try dsimp only [w0,w1,w2,w3]
    refine qS 113 rfl (ok_extract · (.tmp rfl) rfl) (qS 16 rfl (oA · rfl) (qS 17 rfl (oA · rfl) (rE ?_)))
    try dsimp only [w0,w1,w2,w3]
    obtain ⟨p78,hp78,h⟩ := bindo h
    refine qQ rfl (qR rfl rfl (qS 115 rfl (oM · rfl) (q_call (dst := some 116) rfl (.func _) (.cons (.tmp rfl) (.cons (.int _ _) Evs.nil)) (HInv.static rooms_Rooms_Peers.at_ rooms_Rooms_Peers.body (rooms_Rooms_Peers.snd hD hH hp78)) ?_)))
    rintro _ _ ⟨rfl,rfl⟩
    obtain ⟨p79,hp79,h⟩ := bindo h
    refine q_call (dst := some 117) rfl (.func _) (.cons (.tmp rfl) (.cons (.int _ _) Evs.nil)) (HInv.static rollcalllaw20_numbers.at_ rollcalllaw20_numbers.body (rollcalllaw20_numbers.snd hD hH hp79)) ?_
    rintro _ _ ⟨rfl,rfl⟩
    refine qS 114 rfl (oM · rfl) ?_
    try dsimp only [w0,w1,w2,w3]
    refine qS 118 rfl (ok_extract · (.tmp rfl) rfl) (qS 119 rfl (ok_extract · (.tmp rfl) rfl) (qS 18 rfl (oA · rfl) (qS 19 rfl (oA · rfl) (rE ?_))))
    try dsimp only [w0,w1,w2,w3]
    obtain ⟨p80,hp80,h⟩ := bindo h
    obtain ⟨p81,hp81,h⟩ := bindo h
    obtain ⟨p82,hp82,h⟩ := bindo h
    refine qQ rfl (qR rfl rfl (qS 120 rfl (oL · sc3 rfl rfl (ldI_out hp80)) (qS 121 rfl (oL · sc3 rfl hp81 (ldI_out hp82)) (qS 122 rfl (oB · rfl rfl rfl) (qS 123 rfl (oM · rfl) ?_)))))
    try dsimp only [w0,w1,w2,w3]
    rcases ifc h with ⟨hc83,h⟩ | ⟨hc83,h⟩
    ·refine qG 123 124 rfl (decide_eq_true hc83) (oM · rfl) (qG 123 125 rfl (decide_eq_true hc83) (ok_nil_ptr · tu36 (.tmp rfl) (.inl ⟨rfl,rfl⟩)) (qS 126 rfl (ok_pick_tt · (.tmp rfl) (decide_eq_true hc83) (.tmp rfl)) ?_))
     try dsimp only [w0,w1,w2,w3]
     exact J5_snd hD hH h
    ·refine q_skip (dst := some 124) (t := 123) rfl rfl rfl (decide_eq_false hc83) (q_skip (dst := some 125) (t := 123) rfl rfl rfl (decide_eq_false hc83) (qS 126 rfl (ok_pick_ff · (.tmp rfl) (decide_eq_false hc83) (.bool _)) ?_))
     try dsimp only [w0,w1,w2,w3]
     exact J5_snd hD hH h
   ·rcases ifc h with ⟨hc110,h⟩ | ⟨hc110,h⟩
    ·rw [pcode1 hn74 hc110]
     simp only [jumped_none,jumped_some]
     obtain ⟨p111,hp111,h⟩ := bindo h
     obtain ⟨p112,hp112,h⟩ := bindo h
     obtain ⟨p113,hp113,h⟩ := bindo h
     cases h
     exact q_ret rfl at_.at_ hp111 (resL1 rfl (.cell rfl hp112 sc4 (ldB_out hp113))) ⟨rfl,rfl⟩
    ·cases h
def L2 (D : Dp) (H : Hd) (k : Nat) : Nat → Sl → HP → HP → HV → HP → Int → List Nat → HS → Option ((Bool) × HS)
 | 0,_,_,_,_,_,_,_,_ => none
 | n + 1,y2,y6,y7,y9,y10,y11,ds,S =>
  (if y11 < (Sl.len y2 : Int) then
  ((S.idx y2 y11 3).bind fun p35 =>
  ((S.ldI .i64 (HA.fld p35 1)).bind fun p36 =>
  ((rooms_Rooms_Leave.f D H k y7 p36 S).bind fun p37 =>
  ((p37.2.idx y2 y11 3).bind fun p38 =>
  ((p37.2.ldI .i64 (HA.fld p38 1)).bind fun p39 =>
  ((rooms_Rooms_Count.f y7 p39 p37.2).bind fun p40 =>
  (if (!decide (p40.1 = 0)) = true then
  (y6.bind fun p42 =>
  ((p40.2.sets p42 [(.bool false)]).bind fun p43 =>
  ((p43.leave ds).bind fun p44 =>
  (y6.bind fun p45 =>
  ((p44.ldB p45).bind fun p46 =>
  some (p46,p44)))))) else
  (L2 D H k n) y2 y6 y7 y9 y10 (w64 (y11 + 1)) ds p40.2))))))) else
  ((HV.isNilFn y9).bind fun p47 =>
  (if (p47) = true then
  J3 D H k y6 y9 y10 true ds S else
  ((rooms_Rooms_Len.f y7 S).bind fun p114 =>
  J3 D H k y6 y9 y10 (!decide (p114.1 = 0)) ds p114.2))))
theorem L2_snd (hD : DS base W0 D) (hH : HT base W0 β0 H)  : ∀ {n : Nat} ⦃y2 : Sl⦄ ⦃y6 : HP⦄ ⦃y7 : HP⦄ ⦃y9 : HV⦄ ⦃y10 : HP⦄ ⦃y11 : Int⦄ ⦃ds : List Nat⦄ ⦃S : HS⦄ ⦃p : (Bool) × HS⦄ ⦃Ga Gb Gd Ge Gf Gi Gm Gn Go Gp Gq Gr Gs Gt Gu Gv Gw Gx Gy Gz Ka Kb Kc Kd Ke Kf Kg Kh Ki Kj Kk Kl Km Kn Ko Kp Kq Kr Ks Kt Ku Kv Kw Kx Ky Kz Ma Mb Mc Md Me Mf Mg Mh Mi Mj Mk Ml Mm Mn Mo Mp Mq Mr Ms Mt Mu Mv Mw Mx My Mz Na Nb Nc Nd Ne Nf Ng Nh Ni Nj Nk Nl Nm Nn No Np Nq Nr Ns Nt Nu Nv Nw Nx Ny Nz Qa Qb Qc Qd Qe Qf Qg Qh Qi Qj Qk Ql Qm Qn Qo Qp Qq Qr Qs Qt Qu Qv Qw Qx Qy Qz Ua Ub Uc Ud Ue Uf Ug Uh Ui Uj Uk Ul Um Un Uo Up Uq Ur Us Ut Uu Uv Uw Ux Uy Uz Va Vb Vc Vd Ve Vf Vg Vh Vi Vj Vk Vl Vm Vn Vo Vp Vq Vr Vs Vt Vu Vv Vw Vx Vy Vz : HV⦄,L2 D H k n y2 y6 y7 y9 y10 y11 ds S = some p → HR base W0 β0 6 none [.inLoop c52,.inBlock 2,.code c70] ⟨[Ga,Gb,(Sl.hv y2),Gd,Ge,Gf,(.ptr y6),(.ptr y7),Gi,y9,(.ptr y10),(.int .i64 y11),Gm,Gn,Go,Gp,Gq,Gr,Gs,Gt,Gu,Gv,Gw,Gx,Gy,Gz,Ka,Kb,Kc,Kd,Ke,Kf,Kg,Kh,Ki,Kj,Kk,Kl,Km,Kn,Ko,Kp,Kq,Kr,Ks,Kt,Ku,Kv,Kw,Kx,Ky,Kz,Ma,Mb,Mc,Md,Me,Mf,Mg,Mh,Mi,Mj,Mk,Ml,Mm,Mn,Mo,Mp,Mq,Mr,Ms,Mt,Mu,Mv,Mw,Mx,My,Mz,Na,Nb,Nc,Nd,Ne,Nf,Ng,Nh,Ni,Nj,Nk,Nl,Nm,Nn,No,Np,Nq,Nr,Ns,Nt,Nu,Nv,Nw,Nx,Ny,Nz,Qa,Qb,Qc,Qd,Qe,Qf,Qg,Qh,Qi,Qj,Qk,Ql,Qm,Qn,Qo,Qp,Qq,Qr,Qs,Qt,Qu,Qv,Qw,Qx,Qy,Qz,Ua,Ub,Uc,Ud,Ue,Uf,Ug,Uh,Ui,Uj,Uk,Ul,Um,Un,Uo,Up,Uq,Ur,Us,Ut,Uu,Uv,Uw,Ux,Uy,Uz,Va,Vb,Vc,Vd,Ve,Vf,Vg,Vh,Vi,Vj,Vk,Vl,Vm,Vn,Vo,Vp,Vq,Vr,Vs,Vt,Vu,Vv,Vw,Vx,Vy,Vz],ds⟩ S (fun v S1 => v = (.bool p.1) ∧ S1 = p.2) := by
 intro n
 induction n with
 | zero => intro _ _ _ _ _ _ _ _ _ _ _ _ _ _ _ _ _ _ _ _ _ _ _ _ _ _ _ _ _ _ _ _ _ _ _ _ _ _ _ _ _ _ _ _ _ _ _ _ _ _ _ _ _ _ _ _ _ _ _ _ _ _ _ _ _ _ _ _ _ _ _ _ _ _ _ _ _ _ _ _ _ _ _ _ _ _ _ _ _ _ _ _ _ _ _ _ _ _ _ _ _ _ _ _ _ _ _ _ _ _ _ _ _ _ _ _ _ _ _ _ _ _ _ _ _ _ _ _ _ _ _ _ _ _ _ _ _ _ _ _ _ _ _ _ _ _ _ _ _ _ _ _ _ _ _ _ _ _ _ _ _ _ _ _ _ _ _ _ _ _ _ _ _ _ _ _ _ _ _ _ _ _ _ _ _ h; cases h
 | succ n ih =>
  intro y2 y6 y7 y9 y10 y11 ds S p Ga Gb Gd Ge Gf Gi Gm Gn Go Gp Gq Gr Gs Gt Gu Gv Gw Gx Gy Gz Ka Kb Kc Kd Ke Kf Kg Kh Ki Kj Kk Kl Km Kn Ko Kp Kq Kr Ks Kt Ku Kv Kw Kx Ky Kz Ma Mb Mc Md Me Mf Mg Mh Mi Mj Mk Ml Mm Mn Mo Mp Mq Mr Ms Mt Mu Mv Mw Mx My Mz Na Nb Nc Nd Ne Nf Ng Nh Ni Nj Nk Nl Nm Nn No Np Nq Nr Ns Nt Nu Nv Nw Nx Ny Nz Qa Qb Qc Qd Qe Qf Qg Qh Qi Qj Qk Ql Qm Qn Qo Qp Qq Qr Qs Qt Qu Qv Qw Qx Qy Qz Ua Ub Uc Ud Ue Uf Ug Uh Ui Uj Uk Ul Um Un Uo Up Uq Ur Us Ut Uu Uv Uw Ux Uy Uz Va Vb Vc Vd Ve Vf Vg Vh Vi Vj Vk Vl Vm Vn Vo Vp Vq Vr Vs Vt Vu Vv Vw Vx Vy Vz h
  simp only [L2] at h
  refine hr_inLoop (qQ rfl (qQ rfl (qR rfl rfl (qS 69 rfl (oM · rfl) (qS 70 rfl (oM · rfl) (qS 71 rfl (ok_len_sl (q := Sl.a y2) (n := Sl.len y2) (z := Sl.cap y2) · rfl tu22 (.tmp rfl)) (qS 72 rfl (oB · rfl rfl rfl) (rE ?_))))))))
  try dsimp only [w0,w1,w2,w3]
  rcases ifc h with ⟨hc34,h⟩ | ⟨hc34,h⟩
  ·obtain ⟨p35,hp35,h⟩ := bindo h
   refine q_cond_t rfl (.tmp rfl) (decide_eq_true hc34) (q_skipc rfl (qQ rfl (q_block rfl (qQ rfl (qR rfl rfl (qS 75 rfl (oM · rfl) (qS 76 rfl (oM · rfl) (qS 77 rfl (oM · rfl) (qS 78 rfl (oX (s := y2) · tu22 sz34 rfl rfl hp35) ?_)))))))))
   try dsimp only [w0,w1,w2,w3]
   obtain ⟨p36,hp36,h⟩ := bindo h
   obtain ⟨p37,hp37,h⟩ := bindo h
   refine qS 79 rfl (oF · fi34_1 (by decide) rfl rfl) (qS 80 rfl (oL · sc3 rfl rfl (ldI_out hp36)) (q_call (dst := some 81) rfl (.func _) (.cons (.tmp rfl) (.cons (.tmp rfl) Evs.nil)) (HInv.static rooms_Rooms_Leave.at_ rooms_Rooms_Leave.body (rooms_Rooms_Leave.snd hD hH hp37)) ?_))
   rintro _ _ ⟨rfl,rfl⟩
   refine rE ?_
   try dsimp only [w0,w1,w2,w3]
   obtain ⟨p38,hp38,h⟩ := bindo h
   refine qQ rfl (qR rfl rfl (qS 82 rfl (oM · rfl) (qS 83 rfl (oM · rfl) (qS 84 rfl (oM · rfl) (qS 85 rfl (oX (s := y2) · tu22 sz34 rfl rfl hp38) ?_)))))
   try dsimp only [w0,w1,w2,w3]
   obtain ⟨p39,hp39,h⟩ := bindo h
   obtain ⟨p40,hp40,h⟩ := bindo h
   refine qS 86 rfl (oF · fi34_1 (by decide) rfl rfl) (qS 87 rfl (oL · sc3 rfl rfl (ldI_out hp39)) (q_call (dst := some 88) rfl (.func _) (.cons (.tmp rfl) (.cons (.tmp rfl) Evs.nil)) (HInv.static rooms_Rooms_Count.at_ rooms_Rooms_Count.body (rooms_Rooms_Count.snd  hp40)) ?_))
   rintro _ _ ⟨rfl,rfl⟩
   refine qS 89 rfl (oC · rfl rfl) (rE ?_)
   try dsimp only [w0,w1,w2,w3]
   rcases ifc h with ⟨hc41,h⟩ | ⟨hc41,h⟩
   ·obtain ⟨p42,hp42,h⟩ := bindo h
    obtain ⟨p43,hp43,h⟩ := bindo h
    refine q_cond_t rfl (.tmp rfl) hc41 (qQ rfl (qR rfl rfl (qN rfl (ok_store_s (v := (.bool false)) · sz4 (.tmp rfl) hp42 (.bool _) rfl hp43) (rE ?_))))
    try dsimp only [w0,w1,w2,w3]
    obtain ⟨p44,hp44,h⟩ := bindo h
    obtain ⟨p45,hp45,h⟩ := bindo h
    obtain ⟨p46,hp46,h⟩ := bindo h
    cases h
    exact q_ret rfl at_.at_ hp44 (resL1 rfl (.cell rfl hp45 sc4 (ldB_out hp46))) ⟨rfl,rfl⟩
   ·refine q_cond_f rfl (.tmp rfl) (bfalse hc41) (q_skipc rfl (hr_inBlock (qR rfl rfl (qS 73 rfl (oM · rfl) (qS 74 rfl (oC · rfl rfl) (qS 11 rfl (oA · rfl) (rE ?_)))))))
    try dsimp only [w0,w1,w2,w3]
    exact ih h
  ·obtain ⟨p47,hp47,h⟩ := bindo h
   refine q_cond_f rfl (.tmp rfl) (decide_eq_false hc34) (q_exit rfl rfl (qQ rfl (qQ rfl (qR rfl rfl (qS 90 rfl (oM · rfl) (qS 91 rfl (ok_nil_fn · tu54 (.tmp rfl) hp47 (.inl ⟨rfl,rfl⟩)) (qS 92 rfl (oM · rfl) ?_)))))))
   rcases ifc h with ⟨hc48,h⟩ | ⟨hc48,h⟩
   ·refine q_skip (dst := some 93) (t := 92) rfl rfl rfl hc48 ?_
    try dsimp only [w0,w1,w2,w3]
    refine q_skip (dst := some 94) (t := 92) rfl rfl rfl hc48 (q_skip (dst := some 95) (t := 92) rfl rfl rfl hc48 (qS 96 rfl (ok_pick_tt · (.tmp rfl) hc48 (.bool _)) (rE ?_)))
    try dsimp only [w0,w1,w2,w3]
    exact J3_snd hD hH h
   ·refine qG 92 93 rfl (bfalse hc48) (oM · rfl) ?_
    try dsimp only [w0,w1,w2,w3]
    obtain ⟨p114,hp114,h⟩ := bindo h
    refine q_call_g (t := 92) (dst := some 94) rfl rfl rfl (bfalse hc48) (.func _) (.cons (.tmp rfl) Evs.nil) (HInv.static rooms_Rooms_Len.at_ rooms_Rooms_Len.body (rooms_Rooms_Len.snd  hp114)) ?_
    rintro _ _ ⟨rfl,rfl⟩
    refine qG 92 95 rfl (bfalse hc48) (oC · rfl rfl) (qS 96 rfl (ok_pick_ff · (.tmp rfl) (bfalse hc48) (.tmp rfl)) (rE ?_))
    try dsimp only [w0,w1,w2,w3]
    exact J3_snd hD hH h
def L0 (D : Dp) (H : Hd) (k : Nat) : Nat → Int → Int → Sl → HP → HP → Int → List Nat → HS → Option ((Bool) × HS)
 | 0,_,_,_,_,_,_,_,_ => none
 | n + 1,y0,y1,y2,y6,y7,y8,ds,S =>
  (if y8 < (Sl.len y2 : Int) then
  ((S.idx y2 y8 3).bind fun p14 =>
  ((S.ldI .i64 (HA.fld p14 1)).bind fun p15 =>
  ((S.idx y2 y8 3).bind fun p16 =>
  ((S.ldS (HA.fld p16 2)).bind fun p17 =>
  ((rooms_Rooms_Join.f D H k y7 p15 p17 S).bind fun p18 =>
  ((rooms_Rooms_Len.f y7 p18.2).bind fun p19 =>
  (if p19.1 > (w64 y0) then
  J1 D H k (L0 D H k n) y0 y1 y2 y6 y7 y8 true ds p19.2 else
  ((p19.2.idx y2 y8 3).bind fun p27 =>
  ((p19.2.ldI .i64 (HA.fld p27 1)).bind fun p28 =>
  ((rooms_Rooms_Count.f y7 p28 p19.2).bind fun p29 =>
  J1 D H k (L0 D H k n) y0 y1 y2 y6 y7 y8 (decide (p29.1 > (w64 y1))) ds p29.2)))))))))) else
  ((rooms_Rooms_All.f y7 S).bind fun p30 =>
  ((rooms_Rooms_Len.f y7 p30.2).bind fun p31 =>
  (letv (HS.new p31.2 (.cells 1 [[(.int .i64 0)]] true)) fun p32 =>
  ((p32.sets (HA.cell0 p31.2.next) [(.int .i64 p31.1)]).bind fun p33 =>
  L2 D H k k y2 y6 y7 p30.1 (some (HA.cell0 p31.2.next)) 0 ds p33)))))
theorem L0_snd (hD : DS base W0 D) (hH : HT base W0 β0 H)  : ∀ {n : Nat} ⦃y0 : Int⦄ ⦃y1 : Int⦄ ⦃y2 : Sl⦄ ⦃y6 : HP⦄ ⦃y7 : HP⦄ ⦃y8 : Int⦄ ⦃ds : List Nat⦄ ⦃S : HS⦄ ⦃p : (Bool) × HS⦄ ⦃Gd Ge Gf Gj Gk Gl Gm Gn Go Gp Gq Gr Gs Gt Gu Gv Gw Gx Gy Gz Ka Kb Kc Kd Ke Kf Kg Kh Ki Kj Kk Kl Km Kn Ko Kp Kq Kr Ks Kt Ku Kv Kw Kx Ky Kz Ma Mb Mc Md Me Mf Mg Mh Mi Mj Mk Ml Mm Mn Mo Mp Mq Mr Ms Mt Mu Mv Mw Mx My Mz Na Nb Nc Nd Ne Nf Ng Nh Ni Nj Nk Nl Nm Nn No Np Nq Nr Ns Nt Nu Nv Nw Nx Ny Nz Qa Qb Qc Qd Qe Qf Qg Qh Qi Qj Qk Ql Qm Qn Qo Qp Qq Qr Qs Qt Qu Qv Qw Qx Qy Qz Ua Ub Uc Ud Ue Uf Ug Uh Ui Uj Uk Ul Um Un Uo Up Uq Ur Us Ut Uu Uv Uw Ux Uy Uz Va Vb Vc Vd Ve Vf Vg Vh Vi Vj Vk Vl Vm Vn Vo Vp Vq Vr Vs Vt Vu Vv Vw Vx Vy Vz : HV⦄,L0 D H k n y0 y1 y2 y6 y7 y8 ds S = some p → HR base W0 β0 6 none [.inLoop c25,.inBlock 0,.code c43] ⟨[(.int .u8 y0),(.int .u8 y1),(Sl.hv y2),Gd,Ge,Gf,(.ptr y6),(.ptr y7),(.int .i64 y8),Gj,Gk,Gl,Gm,Gn,Go,Gp,Gq,Gr,Gs,Gt,Gu,Gv,Gw,Gx,Gy,Gz,Ka,Kb,Kc,Kd,Ke,Kf,Kg,Kh,Ki,Kj,Kk,Kl,Km,Kn,Ko,Kp,Kq,Kr,Ks,Kt,Ku,Kv,Kw,Kx,Ky,Kz,Ma,Mb,Mc,Md,Me,Mf,Mg,Mh,Mi,Mj,Mk,Ml,Mm,Mn,Mo,Mp,Mq,Mr,Ms,Mt,Mu,Mv,Mw,Mx,My,Mz,Na,Nb,Nc,Nd,Ne,Nf,Ng,Nh,Ni,Nj,Nk,Nl,Nm,Nn,No,Np,Nq,Nr,Ns,Nt,Nu,Nv,Nw,Nx,Ny,Nz,Qa,Qb,Qc,Qd,Qe,Qf,Qg,Qh,Qi,Qj,Qk,Ql,Qm,Qn,Qo,Qp,Qq,Qr,Qs,Qt,Qu,Qv,Qw,Qx,Qy,Qz,Ua,Ub,Uc,Ud,Ue,Uf,Ug,Uh,Ui,Uj,Uk,Ul,Um,Un,Uo,Up,Uq,Ur,Us,Ut,Uu,Uv,Uw,Ux,Uy,Uz,Va,Vb,Vc,Vd,Ve,Vf,Vg,Vh,Vi,Vj,Vk,Vl,Vm,Vn,Vo,Vp,Vq,Vr,Vs,Vt,Vu,Vv,Vw,Vx,Vy,Vz],ds⟩ S (fun v S1 => v = (.bool p.1) ∧ S1 = p.2) := by
 intro n
 induction n with
 | zero => intro _ _ _ _ _ _ _ _ _ _ _ _ _ _ _ _ _ _ _ _ _ _ _ _ _ _ _ _ _ _ _ _ _ _ _ _ _ _ _ _ _ _ _ _ _ _ _ _ _ _ _ _ _ _ _ _ _ _ _ _ _ _ _ _ _ _ _ _ _ _ _ _ _ _ _ _ _ _ _ _ _ _ _ _ _ _ _ _ _ _ _ _ _ _ _ _ _ _ _ _ _ _ _ _ _ _ _ _ _ _ _ _ _ _ _ _ _ _ _ _ _ _ _ _ _ _ _ _ _ _ _ _ _ _ _ _ _ _ _ _ _ _ _ _ _ _ _ _ _ _ _ _ _ _ _ _ _ _ _ _ _ _ _ _ _ _ _ _ _ _ _ _ _ _ _ _ _ _ _ _ _ _ _ _ _ h; cases h
 | succ n ih =>
  intro y0 y1 y2 y6 y7 y8 ds S p Gd Ge Gf Gj Gk Gl Gm Gn Go Gp Gq Gr Gs Gt Gu Gv Gw Gx Gy Gz Ka Kb Kc Kd Ke Kf Kg Kh Ki Kj Kk Kl Km Kn Ko Kp Kq Kr Ks Kt Ku Kv Kw Kx Ky Kz Ma Mb Mc Md Me Mf Mg Mh Mi Mj Mk Ml Mm Mn Mo Mp Mq Mr Ms Mt Mu Mv Mw Mx My Mz Na Nb Nc Nd Ne Nf Ng Nh Ni Nj Nk Nl Nm Nn No Np Nq Nr Ns Nt Nu Nv Nw Nx Ny Nz Qa Qb Qc Qd Qe Qf Qg Qh Qi Qj Qk Ql Qm Qn Qo Qp Qq Qr Qs Qt Qu Qv Qw Qx Qy Qz Ua Ub Uc Ud Ue Uf Ug Uh Ui Uj Uk Ul Um Un Uo Up Uq Ur Us Ut Uu Uv Uw Ux Uy Uz Va Vb Vc Vd Ve Vf Vg Vh Vi Vj Vk Vl Vm Vn Vo Vp Vq Vr Vs Vt Vu Vv Vw Vx Vy Vz h
  simp only [L0] at h
  refine hr_inLoop (qQ rfl (qQ rfl (qR rfl rfl (qS 30 rfl (oM · rfl) (qS 31 rfl (oM · rfl) (qS 32 rfl (ok_len_sl (q := Sl.a y2) (n := Sl.len y2) (z := Sl.cap y2) · rfl tu22 (.tmp rfl)) (qS 33 rfl (oB · rfl rfl rfl) (rE ?_))))))))
  try dsimp only [w0,w1,w2,w3]
  rcases ifc h with ⟨hc13,h⟩ | ⟨hc13,h⟩
  ·refine q_cond_t rfl (.tmp rfl) (decide_eq_true hc13) (q_skipc rfl (qQ rfl (q_block rfl (qQ rfl ?_))))
   refine x_start (cls := [0,0,0,1,0,1,0,0,1,0,1,2]) (rk := [0,1,2,3,4,5,6,7,8,9,10,11]) rfl (by kernel_rfl) ?_
   refine yf 36 [7] rfl (oM · rfl) ?_
   refine yf 37 [2] rfl (oM · rfl) ?_
   refine yf 38 [8] rfl (oM · rfl) ?_
   obtain ⟨p14,hp14,h⟩ := bindo h
   refine yr 39 [37,38] rfl (oX (s := y2) · tu22 sz34 rfl rfl hp14) ?_
   try dsimp only [w0,w1,w2,w3]
   refine yf 40 [39] rfl (oF · fi34_1 (by decide) rfl rfl) ?_
   obtain ⟨p15,hp15,h⟩ := bindo h
   refine yr 41 [40] rfl (oL · sc3 rfl rfl (ldI_out hp15)) ?_
   refine yf 42 [2] rfl (oM · rfl) ?_
   refine yf 43 [8] rfl (oM · rfl) ?_
   try dsimp only [w0,w1,w2,w3]
   obtain ⟨p16,hp16,h⟩ := bindo h
   refine yr 44 [42,43] rfl (oX (s := y2) · tu22 sz34 rfl rfl hp16) ?_
   refine yf 45 [44] rfl (oF · fi34_2 (by decide) rfl rfl) ?_
   obtain ⟨p17,hp17,h⟩ := bindo h
   refine yr 46 [45] rfl (oL · sc9 rfl rfl (ldS_out hp17)) ?_
   obtain ⟨p18,hp18,h⟩ := bindo h
   refine x_go (e_call (dst := some 47) (ts := [36,41,46]) rfl (by kernel_rfl) (.func _) (.cons (.tmp rfl) (.cons (.tmp rfl) (.cons (.tmp rfl) Evs.nil))) (HInv.static rooms_Rooms_Join.at_ rooms_Rooms_Join.body (rooms_Rooms_Join.snd hD hH hp18))) rfl ?_
   refine x_rest rfl ?_
   refine rE ?_
   try dsimp only [w0,w1,w2,w3]
   obtain ⟨p19,hp19,h⟩ := bindo h
   refine qQ rfl (qR rfl rfl (qS 48 rfl (oM · rfl) (q_call (dst := some 49) rfl (.func _) (.cons (.tmp rfl) Evs.nil) (HInv.static rooms_Rooms_Len.at_ rooms_Rooms_Len.body (rooms_Rooms_Len.snd  hp19)) ?_)))
   rintro _ _ ⟨rfl,rfl⟩
   refine qS 50 rfl (oM · rfl) (qS 51 rfl (ok_conv_int · tu5 tu3 (.tmp rfl)) ?_)
   try dsimp only [w0,w1,w2,w3]
   refine qS 52 rfl (oB · rfl rfl rfl) (qS 53 rfl (oM · rfl) ?_)
   rcases ifc h with ⟨hc20,h⟩ | ⟨hc20,h⟩
   ·refine q_skip (dst := some 54) (t := 53) rfl rfl rfl (decide_eq_true hc20) (q_skip (dst := some 55) (t := 53) rfl rfl rfl (decide_eq_true hc20) ?_)
    try dsimp only [w0,w1,w2,w3]
    refine q_skip (dst := some 56) (t := 53) rfl rfl rfl (decide_eq_true hc20) (q_skip (dst := some 57) (t := 53) rfl rfl rfl (decide_eq_true hc20) (q_skip (dst := some 58) (t := 53) rfl rfl rfl (decide_eq_true hc20) (q_skip (dst := some 59) (t := 53) rfl rfl rfl (decide_eq_true hc20) ?_)))
    try dsimp only [w0,w1,w2,w3]
    refine q_skip (dst := some 60) (t := 53) rfl rfl rfl (decide_eq_true hc20) (q_skip (dst := some 61) (t := 53) rfl rfl rfl (decide_eq_true hc20) (q_skip (dst := some 62) (t := 53) rfl rfl rfl (decide_eq_true hc20) (q_skip (dst := some 63) (t := 53) rfl rfl rfl (decide_eq_true hc20) ?_)))
    try dsimp only [w0,w1,w2,w3]
    refine qS 64 rfl (ok_pick_tt · (.tmp rfl) (decide_eq_true hc20) (.bool _)) (rE ?_)
    try dsimp only [w0,w1,w2,w3]
    exact J1_snd hD hH ih h
   ·refine qG 53 54 rfl (decide_eq_false hc20) (oM · rfl) (qG 53 55 rfl (decide_eq_false hc20) (oM · rfl) ?_)
    try dsimp only [w0,w1,w2,w3]
    obtain ⟨p27,hp27,h⟩ := bindo h
    obtain ⟨p28,hp28,h⟩ := bindo h
    refine qG 53 56 rfl (decide_eq_false hc20) (oM · rfl) (qG 53 57 rfl (decide_eq_false hc20) (oX (s := y2) · tu22 sz34 rfl rfl hp27) (qG 53 58 rfl (decide_eq_false hc20) (oF · fi34_1 (by decide) rfl rfl) (qG 53 59 rfl (decide_eq_false hc20) (oL · sc3 rfl rfl (ldI_out hp28)) ?_)))
    try dsimp only [w0,w1,w2,w3]
    obtain ⟨p29,hp29,h⟩ := bindo h
    refine q_call_g (t := 53) (dst := some 60) rfl rfl rfl (decide_eq_false hc20) (.func _) (.cons (.tmp rfl) (.cons (.tmp rfl) Evs.nil)) (HInv.static rooms_Rooms_Count.at_ rooms_Rooms_Count.body (rooms_Rooms_Count.snd  hp29)) ?_
    rintro _ _ ⟨rfl,rfl⟩
    refine qG 53 61 rfl (decide_eq_false hc20) (oM · rfl) (qG 53 62 rfl (decide_eq_false hc20) (ok_conv_int · tu5 tu3 (.tmp rfl)) (qG 53 63 rfl (decide_eq_false hc20) (oB · rfl rfl rfl) ?_))
    try dsimp only [w0,w1,w2,w3]
    refine qS 64 rfl (ok_pick_ff · (.tmp rfl) (decide_eq_false hc20) (.tmp rfl)) (rE ?_)
    try dsimp only [w0,w1,w2,w3]
    exact J1_snd hD hH ih h
  ·obtain ⟨p30,hp30,h⟩ := bindo h
   refine q_cond_f rfl (.tmp rfl) (decide_eq_false hc13) (q_exit rfl rfl (qQ rfl (qR rfl rfl (qS 65 rfl (oM · rfl) (q_call (dst := some 66) rfl (.func _) (.cons (.tmp rfl) Evs.nil) (HInv.static rooms_Rooms_All.at_ rooms_Rooms_All.body (rooms_Rooms_All.snd  hp30)) ?_)))))
   rintro _ _ ⟨rfl,rfl⟩
   refine qS 9 rfl (oA · rfl) (rE ?_)
   try dsimp only [w0,w1,w2,w3]
   obtain ⟨p31,hp31,h⟩ := bindo h
   refine qQ rfl (qR rfl rfl (qS 67 rfl (oM · rfl) (q_call (dst := some 68) rfl (.func _) (.cons (.tmp rfl) Evs.nil) (HInv.static rooms_Rooms_Len.at_ rooms_Rooms_Len.body (rooms_Rooms_Len.snd  hp31)) ?_)))
   rintro _ _ ⟨rfl,rfl⟩
   obtain ⟨p32,hp32,h⟩ := leto h
   obtain ⟨p33,hp33,h⟩ := bindo h
   refine qS 10 rfl (ok_alloc_e · zi3 zr3 (by decide) rfl hp32) (qN rfl (ok_store_s (v := (.int .i64 p31.1)) · sz3 (.tmp rfl) rfl (.tmp rfl) rfl hp33) (rE ?_))
   try dsimp only [w0,w1,w2,w3]
   refine qQ rfl (qQ rfl (qR rfl rfl (qS 11 rfl (ok_assign · (.int _ _)) (rE ?_))))
   try dsimp only [w0,w1,w2,w3]
   refine q_block rfl (q_loop rfl ?_)
   try dsimp only [w0,w1,w2,w3]
   exact L2_snd hD hH h
def f (D : Dp) (H : Hd) (k : Nat) (x0 : Int) (x1 : Int) (x2 : Sl) (S : HS) : Option ((Bool) × HS) :=
 (letv (HS.new S (.cells 1 [[(.bool false)]] true)) fun p1 =>
 ((aw.f p1).bind fun p2 =>
 (if (!p2.1) = true then
 ((p2.2.sets (HA.cell0 S.next) [(.bool false)]).bind fun p4 =>
 ((p4.leave []).bind fun p5 =>
 ((p5.ldB (HA.cell0 S.next)).bind fun p6 =>
 some (p6,p5)))) else
 ((rollcalllaw20_great.f k x2 p2.2).bind fun p7 =>
 (if p7.1 = true then
 ((p7.2.sets (HA.cell0 S.next) [(.bool true)]).bind fun p9 =>
 ((p9.leave []).bind fun p10 =>
 ((p10.ldB (HA.cell0 S.next)).bind fun p11 =>
 some (p11,p10)))) else
 ((rooms_New.f [] [] [] [] 0 0 (w64 x1) (w64 x0) 3 0 0 0 0 0 0 p7.2).bind fun p12 =>
 L0 D H k k x0 x1 x2 (some (HA.cell0 S.next)) p12.1 0 [] p12.2))))))
theorem snd {x0 : Int} {x1 : Int} {x2 : Sl} {S : HS} (hD : DS base W0 D) (hH : HT base W0 β0 H)  {p : (Bool) × HS} (h : f D H k x0 x1 x2 S = some p) : HCall Tryz.prog base W0 β0 6 [(.int .u8 x0),(.int .u8 x1),(Sl.hv x2)] S (fun v S1 => v = (.bool p.1) ∧ S1 = p.2) := by
 unfold f at h
 refine HCall.of_run at_.at_ body ?_
 show HR base W0 β0 6 none [.code c0] ⟨[(.int .u8 x0),(.int .u8 x1),(Sl.hv x2),τ,τ,τ,τ,τ,τ,τ,τ,τ,τ,τ,τ,τ,τ,τ,τ,τ,τ,τ,τ,τ,τ,τ,τ,τ,τ,τ,τ,τ,τ,τ,τ,τ,τ,τ,τ,τ,τ,τ,τ,τ,τ,τ,τ,τ,τ,τ,τ,τ,τ,τ,τ,τ,τ,τ,τ,τ,τ,τ,τ,τ,τ,τ,τ,τ,τ,τ,τ,τ,τ,τ,τ,τ,τ,τ,τ,τ,τ,τ,τ,τ,τ,τ,τ,τ,τ,τ,τ,τ,τ,τ,τ,τ,τ,τ,τ,τ,τ,τ,τ,τ,τ,τ,τ,τ,τ,τ,τ,τ,τ,τ,τ,τ,τ,τ,τ,τ,τ,τ,τ,τ,τ,τ,τ,τ,τ,τ,τ,τ,τ,τ,τ,τ,τ,τ,τ,τ,τ,τ,τ,τ,τ,τ,τ,τ,τ,τ,τ,τ,τ,τ,τ,τ,τ,τ,τ,τ,τ,τ,τ,τ,τ,τ,τ,τ,τ,τ,τ,τ,τ,τ,τ,τ,τ,τ,τ,τ,τ,τ],[]⟩ S _
 obtain ⟨p1,hp1,h⟩ := leto h
 refine qQ rfl (qR rfl rfl (qS 6 rfl (ok_alloc_e · zi4 zr4 (by decide) rfl hp1) (rE ?_)))
 try dsimp only [w0,w1,w2,w3]
 obtain ⟨p2,hp2,h⟩ := bindo h
 refine qQ rfl (qQ rfl (qR rfl rfl (q_call (dst := some 20) rfl (.func _) Evs.nil (HInv.static rollcalllaw20_awake.at_ rollcalllaw20_awake.body (aw.snd hp2)) ?_)))
 rintro _ _ ⟨rfl,rfl⟩
 refine qS 21 rfl (ok_not · (.tmp rfl)) (rE ?_)
 try dsimp only [w0,w1,w2,w3]
 rcases ifc h with ⟨hc3,h⟩ | ⟨hc3,h⟩
 ·obtain ⟨p4,hp4,h⟩ := bindo h
  refine q_cond_t rfl (.tmp rfl) hc3 (qQ rfl (qR rfl rfl (qN rfl (ok_store_s (v := (.bool false)) · sz4 (.tmp rfl) rfl (.bool _) rfl hp4) (rE ?_))))
  try dsimp only [w0,w1,w2,w3]
  obtain ⟨p5,hp5,h⟩ := bindo h
  obtain ⟨p6,hp6,h⟩ := bindo h
  cases h
  exact q_ret rfl at_.at_ hp5 (resL1 rfl (.cell rfl rfl sc4 (ldB_out hp6))) ⟨rfl,rfl⟩
 ·obtain ⟨p7,hp7,h⟩ := bindo h
  refine q_cond_f rfl (.tmp rfl) (bfalse hc3) (q_skipc rfl (qQ rfl (qQ rfl (qR rfl rfl (qS 22 rfl (oM · rfl) (q_call (dst := some 23) rfl (.func _) (.cons (.tmp rfl) Evs.nil) (HInv.static rollcalllaw20_great.at_ rollcalllaw20_great.body (rollcalllaw20_great.snd  hp7)) ?_))))))
  rintro _ _ ⟨rfl,rfl⟩
  refine rE ?_
  try dsimp only [w0,w1,w2,w3]
  rcases ifc h with ⟨hc8,h⟩ | ⟨hc8,h⟩
  ·obtain ⟨p9,hp9,h⟩ := bindo h
   refine q_cond_t rfl (.tmp rfl) hc8 (qQ rfl (qR rfl rfl (qN rfl (ok_store_s (v := (.bool true)) · sz4 (.tmp rfl) rfl (.bool _) rfl hp9) (rE ?_))))
   try dsimp only [w0,w1,w2,w3]
   obtain ⟨p10,hp10,h⟩ := bindo h
   obtain ⟨p11,hp11,h⟩ := bindo h
   cases h
   exact q_ret rfl at_.at_ hp10 (resL1 rfl (.cell rfl rfl sc4 (ldB_out hp11))) ⟨rfl,rfl⟩
  ·refine q_cond_f rfl (.tmp rfl) (bfalse hc8) (q_skipc rfl (qQ rfl (qR rfl rfl (qS 24 rfl (oM · rfl) (qS 25 rfl (ok_conv_int · tu5 tu3 (.tmp rfl)) (qS 26 rfl (oM · rfl) (qS 27 rfl (ok_conv_int · tu5 tu3 (.tmp rfl)) ?_)))))))
   try dsimp only [w0,w1,w2,w3]
   obtain ⟨p12,hp12,h⟩ := bindo h
   refine qS 28 rfl (ok_build (is := [7,6,8]) (xs := [(.tmp 25),(.tmp 27),(.const (.int .i64 3))]) (r := [(.str []),(.str []),(.str []),(.str []),(.int .i64 0),(.int .i64 0),(.int .i64 (w64 x1)),(.int .i64 (w64 x0)),(.int .i64 3),(.int .i64 0),(.int .i64 0),(.int .i64 0),(.int .i64 0),(.int .i64 0),(.int .i64 0)]) st28 · rfl rfl (.cons (.tmp rfl) (.cons (.tmp rfl) (.cons (.int _ _) Evs.nil))) rfl) (q_call (dst := some 29) rfl (.func _) (.cons (.tmp rfl) Evs.nil) (HInv.static rooms_New.at_ rooms_New.body (rooms_New.snd  hp12)) ?_)
   rintro _ _ ⟨rfl,rfl⟩
   refine qS 7 rfl (oA · rfl) (rE ?_)
   try dsimp only [w0,w1,w2,w3]
   refine qQ rfl (qQ rfl (qR rfl rfl (qS 8 rfl (ok_assign · (.int _ _)) (rE ?_))))
   try dsimp only [w0,w1,w2,w3]
   refine q_block rfl (q_loop rfl ?_)
   try dsimp only [w0,w1,w2,w3]
   exact L0_snd hD hH h
end rollcalllaw20_RoomsStay
end
end Go.Proofs.YtbmfomkfmpppiaaGreat.X
namespace Go.Proofs.YtbmfomkfmpppiaaGreat.X
open Go.Proofs.YtbmfomkfmpppiaaGreat.HL
set_option linter.unusedVariables false
theorem vec_keep {n z : Nat} {T T' : HS} {s : Sl} {rows : List (List HV)} (h : Vec n T z s rows) (he : ∀ q,s.a = some q → T'.heap q.1 = T.heap q.1) (hn : T.next ≤ T'.next) : Vec n T' z s rows := by
 cases h with
 | nil => exact .nil
 | open_ g1 g2 g3 => exact .open_ ((he _ rfl).trans g1) g2 (Nat.lt_of_lt_of_le g3 hn)
 | capped g1 g2 g3 g4 g5 g6 => exact .capped ((he _ rfl).trans g1) g2 (Nat.lt_of_lt_of_le g3 hn) g4 g5 g6
theorem rows_keep {S S' : HS} {z : Nat} {s : Sl} {rows : List (List HV)} (h : S.rows s z = some rows) (hk : ∀ q,s.a = some q → S'.heap q.1 = S.heap q.1) : S'.rows s z = some rows := by
 unfold HS.rows at h ⊢
 cases ha : s.a with
 | none => rw [ha] at h; exact h
 | some q =>
  obtain ⟨id,off⟩ := q
  rw [ha] at h
  simp only at h ⊢
  rw [hk _ ha]
  exact h
def OV (S : HS) (z : Nat) (s : Sl) (rows : List (List HV)) : Prop := (s.a = none ∧ s.len = 0 ∧ rows = []) ∨ ∃ id,s = ⟨some (id,0),rows.length,none⟩ ∧ S.heap id = .cells z rows true ∧ id < S.next
theorem OV.keep {S S' : HS} {z : Nat} {s : Sl} {rows : List (List HV)} (h : OV S z s rows) (he : ∀ q,s.a = some q → S'.heap q.1 = S.heap q.1) (hn : S.next ≤ S'.next) : OV S' z s rows := by
 rcases h with h | ⟨id,rfl,h2,h3⟩
 ·exact .inl h
 ·exact .inr ⟨id,rfl,(he _ rfl).trans h2,Nat.lt_of_lt_of_le h3 hn⟩
theorem OV.rows {S : HS} {z : Nat} {s : Sl} {rows : List (List HV)} (h : OV S z s rows) : S.rows s z = some rows := by
 rcases h with ⟨h1,h2,rfl⟩ | ⟨id,rfl,h2,h3⟩
 ·unfold HS.rows; rw [h1]; simp [h2]
 ·simp [HS.rows,h2]
theorem OV.len {S : HS} {z : Nat} {s : Sl} {rows : List (List HV)} (h : OV S z s rows) : s.len = rows.length := (rows_len h.rows).symm
theorem OV.lt {S : HS} {z : Nat} {s : Sl} {rows : List (List HV)} (h : OV S z s rows) {q : Nat × Nat} (hq : s.a = some q) : q.1 < S.next := by
 rcases h with ⟨h1,_,_⟩ | ⟨id,rfl,h2,h3⟩
 ·rw [h1] at hq; cases hq
 ·cases hq; exact h3
theorem ins_ov {S : HS} {z : Nat} {s : Sl} {rows : List (List HV)} {row : List HV} (h : OV S z s rows) {i : Nat} (hi : i ≤ rows.length) (hb : rows.length + 1 ≤ 2147483648) :
  ∃ s' S',(S.lit [row] z).2.ins s (i : Int) (S.lit [row] z).1 z = some (s',S') ∧ OV S' z s' (rows.take i ++ [row] ++ rows.drop i) ∧ S.next ≤ S'.next ∧ (∀ id,id < S.next → (∀ q,s.a = some q → q.1 ≠ id) → S'.heap id = S.heap id) ∧ ∀ q,s'.a = some q → S.next ≤ q.1 := by
 have hr : (S.lit [row] z).2.rows (S.lit [row] z).1 z = some [row] := by simp [HS.lit,HS.rows,new_here]
 unfold HS.ins
 rw [hr,obs]
 rcases h with ⟨h1,h2,rfl⟩ | ⟨id,rfl,h2,h3⟩
 ·obtain rfl : i = 0 := by simpa using hi
  rw [if_neg (by rw [h2]; simp),h1]
  simp only
  rw [if_pos ⟨h2,rfl⟩]
  refine ⟨_,_,rfl,.inr ⟨_,rfl,new_here _ _,Nat.lt_succ_self _⟩,?_,fun id hid _ => ?_,fun q hq => ?_⟩
  ·simp only [HS.lit,new_next]; omega
  ·rw [new_old _ (by simp only [HS.lit,new_next]; omega)]; exact new_old _ hid
  ·cases hq; simp only [HS.lit,new_next]; omega
 ·rw [if_neg (by simp; omega)]
  have hid : (S.lit [row] z).2.heap id = .cells z rows true := (new_old _ h3).trans h2
  simp only [hid,show (S.lit [row] z).1.a = some (S.next,0) from rfl]
  have hc : z = z ∧ (0 : Nat) = 0 ∧ (none : Option Nat) = none ∧ rows.length = rows.length ∧ (0 : Int) ≤ (i : Int) ∧ (i : Int) ≤ (rows.length : Int) ∧ S.next ≠ id ∧ S.next < (S.lit [row] z).2.next ∧ (S.lit [row] z).2.mrk S.next ≠ 1 ∧ ((S.lit [row] z).2.heap S.next).own = true := by
   refine ⟨rfl,rfl,rfl,rfl,by omega,by omega,by omega,Nat.lt_succ_self _,?_,?_⟩
   ·simp [HS.lit,HS.new,HS.newM]
   ·show ((S.new _).heap S.next).own = true
    rw [new_here]; rfl
  rw [if_pos (by simpa using hc)]
  have hn : (S.lit [row] z).2.next = S.next + 1 := rfl
  refine ⟨_,_,rfl,.inr ⟨S.next + 2,?_,?_,?_⟩,?_,fun x hx hq => ?_,fun q hq => ?_⟩
  ·simp only [hn]; simp; omega
  ·simp [HS.swap,hn]
  ·show S.next + 2 < (S.lit [row] z).2.next + 2; rw [hn]; omega
  ·show S.next ≤ (S.lit [row] z).2.next + 2; rw [hn]; omega
  ·have hxi : x ≠ id := fun e => hq _ rfl e.symm
   show (if x = (S.lit [row] z).2.next + 1 then _ else if x = (S.lit [row] z).2.next ∨ x = id then HObj.dead else (S.lit [row] z).2.heap x) = S.heap x
   rw [if_neg (by omega),if_neg (by omega)]
   exact new_old _ hx
  ·cases hq; simp only [hn]; omega
theorem del_ov {S : HS} {z : Nat} {s : Sl} {rows : List (List HV)} (h : OV S z s rows) {i : Nat} (hi : i < rows.length) (hb : rows.length ≤ 2147483648) :
  ∃ s' S',S.del s (i : Int) ((i + 1 : Nat) : Int) z = some (s',S') ∧ OV S' z s' (rows.eraseIdx i) ∧ S.next ≤ S'.next ∧ (∀ id,id < S.next → (∀ q,s.a = some q → q.1 ≠ id) → S'.heap id = S.heap id) ∧ ∀ q,s'.a = some q → S.next ≤ q.1 := by
 rcases h with ⟨h1,h2,rfl⟩ | ⟨id,rfl,h2,h3⟩
 ·simp at hi
 ·unfold HS.del
  simp only [h2]
  rw [if_pos (by refine ⟨trivial,trivial,trivial,trivial,?_,?_,?_,?_⟩ <;> omega)]
  refine ⟨_,_,rfl,.inr ⟨S.next,?_,?_,Nat.lt_succ_self _⟩,Nat.le_succ _,fun x hx hq => ?_,fun q hq => by cases hq; exact Nat.le_refl _⟩
  ·simp only [Int.toNat_natCast,List.length_eraseIdx,if_pos hi]
   congr 1; omega
  ·show (if S.next = S.next then HObj.cells z (rows.take (i : Int).toNat ++ rows.drop ((i + 1 : Nat) : Int).toNat) true else _) = _
   rw [if_pos rfl,Int.toNat_natCast,Int.toNat_natCast,List.eraseIdx_eq_take_drop_succ]
  ·show (if x = S.next then _ else if x = id then HObj.dead else S.heap x) = S.heap x
   rw [if_neg (by omega),if_neg (fun e => hq _ rfl e.symm)]
theorem rows_cut {S : HS} {s : Sl} {z : Nat} {rows : List (List HV)} (h : S.rows s z = some rows) {m : Nat} (hm : m ≤ rows.length) : ∃ sc,S.cut s (m : Int) (rows.length : Int) z = some sc ∧ S.rows sc z = some (rows.drop m) := by
 have hl := rows_len h
 obtain ⟨sa,sl,sc⟩ := s
 have hl2 : rows.length = sl := hl
 subst hl2
 cases sa with
 | none =>
  simp only [HS.rows] at h
  split at h
  ·rename_i e
   cases h
   obtain rfl : m = 0 := by simpa using hm
   exact ⟨⟨none,0,sc⟩,by simp [HS.cut],by simp [HS.rows]⟩
  ·cases h
 | some p =>
  obtain ⟨id,off⟩ := p
  simp only [HS.rows] at h
  split at h
  ·rename_i z' rws own hh
   split at h
   ·rename_i hc
    obtain ⟨rfl,hc⟩ := hc
    simp only [Option.some.injEq] at h
    refine ⟨_,cut_len hh hm (Nat.le_refl _),?_⟩
    rw [rows_at hh (by omega)]
    congr 1
    rw [← List.drop_drop,← List.drop_take,h]
   ·cases h
  ·cases h
theorem mid_eq {i j : Nat} (h : i + j ≤ 1000000) : w64 (Int.fdiv (IntKind.wrap .u64 (w64 ((i : Int) + (j : Int)))) (2 ^ (min (Int.toNat 1) (IntKind.bits .u64)))) = (((i + j) / 2 : Nat) : Int) := by
 have e1 : w64 ((i : Int) + (j : Int)) = ((i + j : Nat) : Int) := by rw [w64_id (by omega) (by omega)]; omega
 have e2 : IntKind.wrap .u64 ((i + j : Nat) : Int) = ((i + j : Nat) : Int) := by
  simp only [IntKind.wrap,IntKind.signed,IntKind.bits]
  simp
  omega
 have e3 : (2 : Int) ^ (min (Int.toNat 1) (IntKind.bits .u64)) = 2 := by decide
 rw [e1,e2,e3]
 have e4 : Int.fdiv ((i + j : Nat) : Int) 2 = (((i + j) / 2 : Nat) : Int) := by
  rw [Int.fdiv_eq_ediv_of_nonneg _ (by omega)]; omega
 rw [e4,w64_id (by omega) (by omega)]
theorem OV.none {S : HS} {z : Nat} {s : Sl} {rows : List (List HV)} (h : OV S z s rows) (ha : s.a = none) : rows = [] := by
 rcases h with ⟨_,_,h⟩ | ⟨id,rfl,_,_⟩
 ·exact h
 ·cases ha
theorem OV.rd {S : HS} {z : Nat} {s : Sl} {rows : List (List HV)} (h : OV S z s rows) : Rd S.next S z s rows := ⟨h.rows,fun q hq => h.lt hq⟩
theorem get_at {S : HS} {s : Sl} {rows : List (List HV)} (h : S.rows s 1 = some rows) {i : Nat} (hi : i < rows.length) {v : HV} (hv : rows[i] = [v]) : ∃ ad,S.idx s (i : Int) 1 = some ad ∧ S.get ad = some v := by
 obtain ⟨ad,h1,h2,h3⟩ := rows_idx h (i := i) hi
 refine ⟨ad,h1,?_⟩
 have := row_get (j := 0) (v := v) h3 h2 (by simp [hv])
 obtain ⟨a1,a2,a3⟩ := ad
 simp only at h2
 subst h2
 exact this
theorem row_ldM {S : HS} {ad : HA} {r : List HV} {m : Option Nat} {j : Nat} (h : S.row ad.id ad.i = some r) (hj : ad.j = 0) (hv : r[j]? = some (.map m)) : S.ldM (HA.fld ad j) = some m := by
 rw [HS.ldM,row_get h hj hv]; rfl
theorem dI_at (n : Int) : dI .i64 (HV.int .i64 n) = some n := by simp [dI]
def Own (p : Nat) (s : Sl) (id : Nat) : Prop := id = p ∨ ∃ q,s.a = some q ∧ q.1 = id
structure Only (q : Nat) (s s' : Sl) (S S' : HS) : Prop where
 le : S.next ≤ S'.next
 eq : ∀ id,id < S.next → ¬ Own q s id → S'.heap id = S.heap id
 own : ∀ id,Own q s' id → Own q s id ∨ S.next ≤ id
theorem Only.refl (q : Nat) (s : Sl) (S : HS) : Only q s s S S := ⟨Nat.le_refl _,fun _ _ _ => rfl,fun _ h => .inl h⟩
theorem Only.trans {q : Nat} {s s' s'' : Sl} {S S' S'' : HS} (h : Only q s s' S S') (k : Only q s' s'' S' S'') : Only q s s'' S S'' :=
 ⟨Nat.le_trans h.le k.le,fun id h1 h2 => (k.eq id (Nat.lt_of_lt_of_le h1 h.le) (fun ho => (h.own id ho).elim h2 (fun h3 => by omega))).trans (h.eq id h1 h2),fun id ho => by
  rcases k.own id ho with h1 | h1
  ·exact h.own id h1
  ·have := h.le; exact .inr (by omega)⟩
theorem Only.of_fr {q : Nat} {s : Sl} {S S' : HS} (h : Fr S.next S S') : Only q s s S S' := ⟨h.le,fun id h1 _ => h.eq id h1,fun _ ho => .inl ho⟩
structure Tld (H : Hd) (l : Nat) (vs : List (List HV)) (I : Nat → (Nat → Prop) → HS → Prop) (Stop : (Nat → Prop) → HS → Prop) : Prop where
 keep : ∀ i O S S',I i O S → (∀ id,O id → S'.heap id = S.heap id) → S.next ≤ S'.next → I i O S'
 keepS : ∀ O S S',Stop O S → (∀ id,O id → S'.heap id = S.heap id) → S.next ≤ S'.next → Stop O S'
 lt : ∀ i O S,I i O S → ∀ id,O id → id < S.next
 ltS : ∀ O S,Stop O S → ∀ id,O id → id < S.next
 step : ∀ i (hi : i < vs.length) O S,I i O S → ∃ b S' O',Option.bind (H l) (fun r => r vs[i] S) = some (.bool b,S') ∧ S.next ≤ S'.next ∧ (∀ id,id < S.next → ¬ O id → S'.heap id = S.heap id) ∧ (∀ id,O' id → O id ∨ S.next ≤ id) ∧ (b = true → I (i + 1) O' S') ∧ (b = false → Stop O' S')
def Tells (D : Dp) (fv : HV) (vs : List (List HV)) (K : Nat → Prop) (B : HS) : Prop :=
 ∀ (H : Hd) (l : Nat) (I : Nat → (Nat → Prop) → HS → Prop) (Stop : (Nat → Prop) → HS → Prop),Tld H l vs I Stop → ∀ (O : Nat → Prop) (S : HS),I 0 O S → (∀ id,K id → S.heap id = B.heap id ∧ ¬ O id ∧ id < S.next) →
  ∃ S' O',D H fv [.fn (.yield l) [] []] S = some (.tup [],S') ∧ S.next ≤ S'.next ∧ (∀ id,id < S.next → ¬ O id → S'.heap id = S.heap id) ∧ (∀ id,O' id → O id ∨ S.next ≤ id) ∧ (I vs.length O' S' ∨ Stop O' S')
structure Chg (O O' : Nat → Prop) (S S' : HS) : Prop where
 le : S.next ≤ S'.next
 eq : ∀ id,id < S.next → ¬ O id → S'.heap id = S.heap id
 own : ∀ id,O' id → O id ∨ S.next ≤ id
theorem Chg.refl (O : Nat → Prop) (S : HS) : Chg O O S S := ⟨Nat.le_refl _,fun _ _ _ => rfl,fun _ h => .inl h⟩
theorem Chg.trans {O O' O'' : Nat → Prop} {S S' S'' : HS} (h : Chg O O' S S') (k : Chg O' O'' S' S'') : Chg O O'' S S'' :=
 ⟨Nat.le_trans h.le k.le,fun id h1 h2 => (k.eq id (Nat.lt_of_lt_of_le h1 h.le) (fun ho => (h.own id ho).elim h2 (fun h3 => by omega))).trans (h.eq id h1 h2),fun id ho => by
  rcases k.own id ho with h1 | h1
  ·exact h.own id h1
  ·have := h.le; exact .inr (by omega)⟩
theorem Chg.of_fr {O : Nat → Prop} {S S' : HS} (h : Fr S.next S S') : Chg O O S S' := ⟨h.le,fun id h1 _ => h.eq id h1,fun _ ho => .inl ho⟩
theorem range_tells {D : Dp} {H : Hd} {fv : HV} {vs : List (List HV)} {K : Nat → Prop} {S : HS} {hd : List HV → HS → Option (HV × HS)} {bd : Nat → HS → Option (HV × HS)}
  (hT : Tells D fv vs K S) (hK : ∀ id,K id → id < S.next) (I : Nat → (Nat → Prop) → HS → Prop) (Q : Code → (Nat → Prop) → HS → Prop)
  (keepI : ∀ i O T T',I i O T → (∀ id,O id → T'.heap id = T.heap id) → T.next ≤ T'.next → I i O T')
  (keepQ : ∀ c O T T',Q c O T → (∀ id,O id → T'.heap id = T.heap id) → T.next ≤ T'.next → Q c O T')
  (O : Nat → Prop) (hO : ∀ id,O id → id < S.next) (hI : I 0 O S) (hOK : ∀ id,O id → ¬ K id)
  (hdef : ∀ i (hi : i < vs.length) T,T.heap (S.next + 1) = .loop .ready none → hd vs[i] T = bd i (T.put (S.next + 1) (.loop .busy none)))
  (step : ∀ i (hi : i < vs.length) O1 U,I i O1 U → S.next + 2 ≤ U.next → U.heap (S.next + 1) = .loop .busy none → ¬ O1 (S.next + 1) → (∀ id,O1 id → id < U.next) →
   ∃ U' O2 j,bd i U = U'.endr (S.next + 1) j ∧ Chg O1 O2 U U' ∧ (∀ id,O2 id → id < U'.next) ∧ (j = none → I (i + 1) O2 U') ∧ ∀ c,j = some c → Q c O2 U') :
  ∃ T st S' O',D (Hd.set H (S.next + 1) hd) fv [.fn (.yield (S.next + 1)) [] []] ((S.new .defer).new (.loop .ready none)) = some (.tup [],T) ∧ T.finish (S.next + 1) = some (st,S') ∧ S'.heap S.next = .defer ∧ S.next + 2 ≤ S'.next ∧
   Chg O O' S S' ∧ (∀ id,O' id → id ≠ S.next ∧ id ≠ S.next + 1 ∧ id < S'.next) ∧ (st = none → I vs.length O' S') ∧ (∀ c,st = some c → Q c O' S') := by
 have f2 : Fr S.next S ((S.new .defer).new (.loop .ready none)) := (Fr.new (Nat.le_refl _) _).trans (Fr.new (by rw [new_next]; omega) _)
 have n2 : ((S.new .defer).new (.loop .ready none)).next = S.next + 2 := rfl
 have d2 : ((S.new .defer).new (.loop .ready none)).heap S.next = .defer := by rw [new_old _ (by rw [new_next]; omega)]; exact new_here _ _
 have l2 : ((S.new .defer).new (.loop .ready none)).heap (S.next + 1) = .loop .ready none := new_here (S.new .defer) _
 generalize (S.new .defer).new (.loop .ready none) = S0 at f2 n2 d2 l2 ⊢
 let J : Nat → (Nat → Prop) → HS → Prop := fun i OO T => ∃ O1,(∀ id,OO id ↔ (O1 id ∨ id = S.next ∨ id = S.next + 1)) ∧ (∀ id,O1 id → id ≠ S.next ∧ id ≠ S.next + 1 ∧ id < T.next ∧ (O id ∨ S.next + 2 ≤ id)) ∧ I i O1 T ∧ T.heap S.next = .defer ∧ T.heap (S.next + 1) = .loop .ready none ∧ S.next + 2 ≤ T.next
 let St : (Nat → Prop) → HS → Prop := fun OO T => ∃ O1 c,(∀ id,OO id ↔ (O1 id ∨ id = S.next ∨ id = S.next + 1)) ∧ (∀ id,O1 id → id ≠ S.next ∧ id ≠ S.next + 1 ∧ id < T.next ∧ (O id ∨ S.next + 2 ≤ id)) ∧ Q c O1 T ∧ T.heap S.next = .defer ∧ T.heap (S.next + 1) = .loop .done (some c) ∧ S.next + 2 ≤ T.next
 have hO' : ∀ id,O id → id ≠ S.next ∧ id ≠ S.next + 1 ∧ id < S0.next := fun id h => by have := hO id h; omega
 obtain ⟨T,O',e,t1,t2,t3,t4⟩ := hT (Hd.set H (S.next + 1) hd) (S.next + 1) J St (by
   refine ⟨fun i OO T T' h hk hn => ?_,fun OO T T' h hk hn => ?_,fun i OO T h id ho => ?_,fun OO T h id ho => ?_,fun i hi OO T h => ?_⟩
   ·obtain ⟨O1,a1,a2,a3,a4,a5,a6⟩ := h
    exact ⟨O1,a1,fun id ho => ⟨(a2 id ho).1,(a2 id ho).2.1,by have := (a2 id ho).2.2.1; omega,(a2 id ho).2.2.2⟩,keepI _ _ _ _ a3 (fun id ho => hk id ((a1 id).2 (.inl ho))) hn,(hk _ ((a1 _).2 (.inr (.inl rfl)))).trans a4,(hk _ ((a1 _).2 (.inr (.inr rfl)))).trans a5,by omega⟩
   ·obtain ⟨O1,c,a1,a2,a3,a4,a5,a6⟩ := h
    exact ⟨O1,c,a1,fun id ho => ⟨(a2 id ho).1,(a2 id ho).2.1,by have := (a2 id ho).2.2.1; omega,(a2 id ho).2.2.2⟩,keepQ _ _ _ _ a3 (fun id ho => hk id ((a1 id).2 (.inl ho))) hn,(hk _ ((a1 _).2 (.inr (.inl rfl)))).trans a4,(hk _ ((a1 _).2 (.inr (.inr rfl)))).trans a5,by omega⟩
   ·obtain ⟨O1,a1,a2,a3,a4,a5,a6⟩ := h
    rcases (a1 id).1 ho with g | g | g
    ·exact (a2 id g).2.2.1
    ·omega
    ·omega
   ·obtain ⟨O1,c,a1,a2,a3,a4,a5,a6⟩ := h
    rcases (a1 id).1 ho with g | g | g
    ·exact (a2 id g).2.2.1
    ·omega
    ·omega
   ·obtain ⟨O1,a1,a2,a3,a4,a5,a6⟩ := h
    simp only [Hd.set,if_true,obs]
    rw [hdef i hi T a5]
    have bk : ∀ id,id ≠ S.next + 1 → (T.put (S.next + 1) (.loop .busy none)).heap id = T.heap id := fun id h => put_other _ h
    have bn : (T.put (S.next + 1) (.loop .busy none)).next = T.next := rfl
    have bl : (T.put (S.next + 1) (.loop .busy none)).heap (S.next + 1) = .loop .busy none := put_here _ _ _
    generalize T.put (S.next + 1) (.loop .busy none) = U at bk bn bl ⊢
    obtain ⟨U',O2,j,e1,c1,l1,p1,p2⟩ := step i hi O1 U (keepI _ _ _ _ a3 (fun id ho => bk id (a2 id ho).2.1) (by omega)) (by omega) bl (fun h => (a2 _ h).2.1 rfl) (fun id h => by have := (a2 id h).2.2.1; omega)
    have ul : U'.heap (S.next + 1) = .loop .busy none := (c1.eq _ (by omega) (fun h => (a2 _ h).2.1 rfl)).trans bl
    have ud : U'.heap S.next = .defer := (c1.eq _ (by omega) (fun h => (a2 _ h).1 rfl)).trans ((bk _ (by omega)).trans a4)
    have hle := c1.le
    have h2 : ∀ id,O2 id → id ≠ S.next ∧ id ≠ S.next + 1 ∧ id < U'.next ∧ (O id ∨ S.next + 2 ≤ id) := fun id h => by
     rcases c1.own id h with g | g
     ·exact ⟨(a2 id g).1,(a2 id g).2.1,l1 id h,(a2 id g).2.2.2⟩
     ·exact ⟨by omega,by omega,l1 id h,.inr (by omega)⟩
    rw [e1,endr_at j ul]
    refine ⟨j.isNone,_,fun id => O2 id ∨ id = S.next ∨ id = S.next + 1,rfl,by rw [put_next]; omega,fun id g1 g2 => ?_,fun id h => ?_,fun hj => ?_,fun hj => ?_⟩
    ·have g3 : ¬ O1 id := fun h => g2 ((a1 id).2 (.inl h))
     have g4 : id ≠ S.next + 1 := fun h => g2 ((a1 id).2 (.inr (.inr h)))
     rw [put_other _ g4,c1.eq id (by omega) g3,bk id g4]
    ·rcases h with h | h
     ·rcases c1.own id h with g | g
      ·exact .inl ((a1 id).2 (.inl g))
      ·exact .inr (by omega)
     ·exact .inl ((a1 id).2 (.inr h))
    ·have hj' : j = none := by simpa using hj
     subst hj'
     exact ⟨O2,fun _ => Iff.rfl,h2,keepI _ _ _ _ (p1 rfl) (fun id h => put_other _ (h2 id h).2.1) (Nat.le_refl _),by rw [put_other _ (by omega)]; exact ud,put_here _ _ _,by rw [put_next]; omega⟩
    ·cases j with
     | none => cases hj
     | some c => exact ⟨O2,c,fun _ => Iff.rfl,h2,keepQ _ _ _ _ (p2 c rfl) (fun id h => put_other _ (h2 id h).2.1) (Nat.le_refl _),by rw [put_other _ (by omega)]; exact ud,put_here _ _ _,by rw [put_next]; omega⟩)
  (fun id => O id ∨ id = S.next ∨ id = S.next + 1) S0 ⟨O,fun _ => Iff.rfl,fun id h => ⟨(hO' id h).1,(hO' id h).2.1,(hO' id h).2.2,.inl h⟩,keepI _ _ _ _ hI (fun id h => f2.eq id (hO id h)) f2.le,d2,l2,by omega⟩ (fun id hid => ⟨f2.eq id (hK id hid),fun ho => by
   have := hK id hid
   rcases ho with g | g | g
   ·exact hOK id g hid
   ·omega
   ·omega,by have := hK id hid; omega⟩)
 have hfr : ∀ id,id < S.next → ¬ O id → T.heap id = S.heap id := fun id h1 h2 => (t2 id (by omega) (fun ho => by
  rcases ho with g | g | g
  ·exact h2 g
  ·omega
  ·omega)).trans (f2.eq id h1)
 rcases t4 with h | h
 ·obtain ⟨O1,a1,a2,a3,a4,a5,a6⟩ := h
  refine ⟨T,none,T.put (S.next + 1) (.loop .exhausted none),O1,e,by simp [HS.finish,a5],by rw [put_other _ (by omega)]; exact a4,a6,⟨by rw [put_next]; omega,fun id h1 h2 => by rw [put_other _ (by omega)]; exact hfr id h1 h2,fun id h => (a2 id h).2.2.2.elim .inl (fun g => .inr (by omega))⟩,fun id h => ⟨(a2 id h).1,(a2 id h).2.1,(a2 id h).2.2.1⟩,fun _ => keepI _ _ _ _ a3 (fun id h => put_other _ (a2 id h).2.1) (Nat.le_refl _),fun c hc => by cases hc⟩
 ·obtain ⟨O1,c,a1,a2,a3,a4,a5,a6⟩ := h
  refine ⟨T,some c,T.put (S.next + 1) (.loop .exhausted (some c)),O1,e,by simp [HS.finish,a5],by rw [put_other _ (by omega)]; exact a4,a6,⟨by rw [put_next]; omega,fun id h1 h2 => by rw [put_other _ (by omega)]; exact hfr id h1 h2,fun id h => (a2 id h).2.2.2.elim .inl (fun g => .inr (by omega))⟩,fun id h => ⟨(a2 id h).1,(a2 id h).2.1,(a2 id h).2.2.1⟩,fun hc => (by cases hc),fun c' hc => ?_⟩
  cases hc
  exact keepQ _ _ _ _ a3 (fun id h => put_other _ (a2 id h).2.1) (Nat.le_refl _)
namespace KI
abbrev Ky := Int
def kv (k : Ky) : HV := .int .i64 k
def klt (a b : Ky) : Bool := decide (a < b)
theorem klt_irrefl (a : Ky) : klt a a = false := by simp [klt]
theorem klt_trans {a b c : Ky} (h1 : klt a b = true) (h2 : klt b c = true) : klt a c = true := by simp only [klt,decide_eq_true_eq] at *; exact Int.lt_trans h1 h2
theorem klt_tri (a b : Ky) : klt a b = true ∨ a = b ∨ klt b a = true := by simp only [klt,decide_eq_true_eq]; exact Int.lt_trichotomy a b
def row1 (k : Ky) : List HV := [kv k]
theorem ldK_at {S : HS} {s : Sl} {xs : List Ky} (h : S.rows s 1 = some (xs.map row1)) {i : Nat} (hi : i < xs.length) : ∃ ad,S.idx s (i : Int) 1 = some ad ∧ S.ldI .i64 ad = some xs[i] := by
 obtain ⟨ad,h1,h2⟩ := get_at h (i := i) (v := kv xs[i]) (by simpa using hi) (by rw [List.getElem_map]; rfl)
 exact ⟨ad,h1,by rw [HS.ldI,h2]; simp [dI,kv]⟩
theorem less_spec (a b : Ky) : cmp_Less_int.f a b = some (klt a b) := by
 have h : ∀ x,cmp_isNaN_int.f x = some false := fun x => by simp [cmp_isNaN_int.f]
 rw [cmp_Less_int.f,h,obs,if_neg (by simp),cmp_Less_int.J0,if_neg (by simp),cmp_Less_int.J1]
 rfl
def Srt (es : List Ky) : Prop := es.Pairwise fun a b => klt a b = true
theorem Srt.lt {es : List Ky} (h : Srt es) {i j : Nat} (hi : i < es.length) (hj : j < es.length) (hij : i < j) : klt es[i] es[j] = true := List.pairwise_iff_getElem.1 h i j hi hj hij
structure PosOf (es : List Ky) (t : Ky) (p : Nat) : Prop where
 le : p ≤ es.length
 lo : ∀ q (hq : q < es.length),q < p → klt es[q] t = true
 hi : ∀ q (hq : q < es.length),p ≤ q → klt es[q] t = false
theorem PosOf.gt {es : List Ky} {t : Ky} {p : Nat} (h : PosOf es t p) (hs : Srt es) (hf : t ∉ es) {q : Nat} (hq : q < es.length) (hpq : p ≤ q) : klt t es[q] = true := by
 have h1 := h.hi q hq hpq
 rcases klt_tri es[q] t with g | g | g
 ·rw [h1] at g; cases g
 ·exact absurd (g ▸ List.getElem_mem hq) hf
 ·exact g
theorem PosOf.here {es : List Ky} {t : Ky} {p : Nat} (h : PosOf es t p) (hs : Srt es) (hm : t ∈ es) : ∃ hp : p < es.length,es[p] = t := by
 obtain ⟨q,hq,he⟩ := List.getElem_of_mem hm
 have hqp : p ≤ q := by
  rcases Nat.lt_or_ge q p with g | g
  ·have := h.lo q hq g; rw [he,klt_irrefl] at this; cases this
  ·exact g
 have hp : p < es.length := by omega
 refine ⟨hp,?_⟩
 rcases Nat.eq_or_lt_of_le hqp with g | g
 ·subst g; exact he
 ·have h1 := hs.lt hp hq g
  rw [he] at h1
  rw [h.hi p hp (Nat.le_refl _)] at h1; cases h1
theorem ins_srt {es : List Ky} {t : Ky} {p : Nat} (h : PosOf es t p) (hs : Srt es) (hf : t ∉ es) : Srt (es.take p ++ [t] ++ es.drop p) := by
 unfold Srt
 rw [List.append_assoc,List.pairwise_append]
 refine ⟨List.Pairwise.sublist (List.take_sublist _ _) hs,?_,fun a ha b hb => ?_⟩
 ·rw [List.singleton_append,List.pairwise_cons]
  refine ⟨fun b hb => ?_,List.Pairwise.sublist (List.drop_sublist _ _) hs⟩
  obtain ⟨q,hq,rfl⟩ := List.getElem_of_mem hb
  rw [List.getElem_drop]
  exact h.gt hs hf _ (by omega)
 ·obtain ⟨q,hq,rfl⟩ := List.getElem_of_mem ha
  rw [List.length_take] at hq
  rw [List.getElem_take]
  have h1 := h.lo q (by omega) (by omega)
  rcases List.mem_append.1 hb with hb | hb
  ·simp only [List.mem_singleton] at hb
   subst hb; exact h1
  ·obtain ⟨q2,hq2,rfl⟩ := List.getElem_of_mem hb
   rw [List.getElem_drop]
   rw [List.length_drop] at hq2
   exact hs.lt (by omega) (by omega) (by omega)
theorem ins_mem {es : List Ky} {t : Ky} {p : Nat} (v : Ky) : v ∈ es.take p ++ [t] ++ es.drop p ↔ v ∈ es ∨ v = t := by
 simp only [List.mem_append,List.mem_singleton]
 constructor
 ·rintro ((h | h) | h)
  ·exact .inl (List.mem_of_mem_take h)
  ·exact .inr h
  ·exact .inl (List.mem_of_mem_drop h)
 ·rintro (h | h)
  ·rw [← List.take_append_drop p es,List.mem_append] at h
   rcases h with h | h
   ·exact .inl (.inl h)
   ·exact .inr h
  ·exact .inl (.inr h)
theorem erase_srt {es : List Ky} (hs : Srt es) (p : Nat) : Srt (es.eraseIdx p) := List.Pairwise.sublist (List.eraseIdx_sublist _ _) hs
theorem erase_mem {es : List Ky} (hs : Srt es) {p : Nat} (hp : p < es.length) (v : Ky) : v ∈ es.eraseIdx p ↔ v ∈ es ∧ v ≠ es[p] := by
 rw [List.mem_eraseIdx_iff_getElem]
 constructor
 ·rintro ⟨q,hq,hne,rfl⟩
  refine ⟨List.getElem_mem hq,fun he => ?_⟩
  rcases Nat.lt_or_ge q p with g | g
  ·have := hs.lt hq hp g; rw [he,klt_irrefl] at this; cases this
  ·have := hs.lt hp hq (by omega); rw [he,klt_irrefl] at this; cases this
 ·rintro ⟨hm,hne⟩
  obtain ⟨q,hq,rfl⟩ := List.getElem_of_mem hm
  exact ⟨q,hq,fun e => hne (by subst e; rfl),rfl⟩
theorem srt_ext : ∀ {a b : List Ky},Srt a → Srt b → (∀ v,v ∈ a ↔ v ∈ b) → a = b := by
 intro a
 induction a with
 | nil =>
  intro b _ _ h
  cases b with
  | nil => rfl
  | cons y b => exact absurd ((h y).2 (by simp)) (by simp)
 | cons x a ih =>
  intro b ha hb h
  cases b with
  | nil => exact absurd ((h x).1 (by simp)) (by simp)
  | cons y b =>
   have ha' := List.pairwise_cons.1 ha
   have hb' := List.pairwise_cons.1 hb
   have hxy : x = y := by
    rcases List.mem_cons.1 ((h x).1 (by simp)) with g | g
    ·exact g
    ·rcases List.mem_cons.1 ((h y).2 (by simp)) with g2 | g2
     ·exact g2.symm
     ·have h1 := hb'.1 x g
      have h2 := ha'.1 y g2
      have := klt_trans h1 h2
      rw [klt_irrefl] at this; cases this
   subst hxy
   congr 1
   refine ih ha'.2 hb'.2 fun v => ?_
   have h1 := h v
   simp only [List.mem_cons] at h1
   constructor
   ·intro hv
    rcases h1.1 (.inr hv) with g | g
    ·subst g; have := ha'.1 v hv; rw [klt_irrefl] at this; cases this
    ·exact g
   ·intro hv
    rcases h1.2 (.inr hv) with g | g
    ·subst g; have := hb'.1 v hv; rw [klt_irrefl] at this; cases this
    ·exact g
theorem bs_spec {k : Nat} {S : HS} {s : Sl} {es : List Ky} {t : Ky} (hk : 2000 ≤ k) (hs : Srt es) (hle : es.length ≤ 1000) (hr : S.rows s 1 = some (es.map row1)) :
  ∃ p : Nat,slices_BinarySearch_int_int.f k s t S = some (((p : Int),decide (t ∈ es)),S) ∧ PosOf es t p := by
 have hsl : (s.len : Int) = es.length := by rw [← rows_len hr]; simp
 have hloop : ∀ (n i j : Nat),j - i < n → i ≤ j → j ≤ es.length → (∀ q (hq : q < es.length),q < i → klt es[q] t = true) → (∀ q (hq : q < es.length),j ≤ q → klt es[q] t = false) →
   ∃ p : Nat,slices_BinarySearch_int_int.L0 k n s t (es.length : Int) (i : Int) (j : Int) S = some (((p : Int),decide (t ∈ es)),S) ∧ PosOf es t p := by
  intro n
  induction n with
  | zero => intro i j h; omega
  | succ n ih =>
   intro i j hf hij hj hlo hhi
   rw [slices_BinarySearch_int_int.L0]
   by_cases hlt : i < j
   ·rw [if_pos (by omega),mid_eq (by omega)]
    have hm : (i + j) / 2 < es.length := by omega
    obtain ⟨ad,a1,a2⟩ := ldK_at hr hm
    rw [a1,obs,a2,obs,less_spec,obs]
    cases hc : klt es[(i + j) / 2] t with
    | true =>
     rw [if_pos rfl,w64_id (by omega) (by omega),show ((((i + j) / 2 : Nat) : Int) + 1) = (((i + j) / 2 + 1 : Nat) : Int) by simp]
     exact ih ((i + j) / 2 + 1) j (by omega) (by omega) hj (fun q hq hqi => by
      rcases Nat.lt_or_ge q ((i + j) / 2) with h | h
      ·exact klt_trans (hs.lt hq hm h) hc
      ·obtain rfl : q = (i + j) / 2 := by omega
       exact hc) hhi
    | false =>
     rw [if_neg (by simp)]
     exact ih i ((i + j) / 2) (by omega) (by omega) (by omega) hlo (fun q hq hqi => by
      rcases Nat.lt_or_ge ((i + j) / 2) q with h | h
      ·cases h2 : klt es[q] t with
       | false => rfl
       | true => have := klt_trans (hs.lt hm hq h) h2; rw [hc] at this; cases this
      ·obtain rfl : q = (i + j) / 2 := by omega
       exact hc)
   ·obtain rfl : i = j := by omega
    rw [if_neg (by omega)]
    have hp : PosOf es t i := ⟨hj,hlo,hhi⟩
    refine ⟨i,?_,hp⟩
    by_cases hend : i < es.length
    ·obtain ⟨ad,a1,a2⟩ := ldK_at hr hend
     rw [if_pos (by omega),a1,obs,a2,obs]
     by_cases he : es[i] = t
     ·rw [if_pos he,slices_BinarySearch_int_int.J1,if_pos (by simpa using hend),slices_BinarySearch_int_int.J2,decide_eq_true (he ▸ List.getElem_mem hend)]
     ·have hno : t ∉ es := fun hm => by
       obtain ⟨_,h2⟩ := hp.here hs hm
       exact he h2
      rw [if_neg he,obs,a2,obs,show slices_isNaN_int.f es[i] = some false by simp [slices_isNaN_int.f],obs,if_neg (by simp),slices_BinarySearch_int_int.J3,if_pos (by simpa using hend),if_neg (by simpa using he),slices_BinarySearch_int_int.J1,if_pos (by simpa using hend),slices_BinarySearch_int_int.J2,decide_eq_false hno]
    ·have hno : t ∉ es := fun hm => by
      obtain ⟨h1,_⟩ := hp.here hs hm
      exact hend h1
     rw [if_neg (by omega),slices_BinarySearch_int_int.J2,decide_eq_false hno]
 rw [slices_BinarySearch_int_int.f,hsl]
 exact hloop k 0 es.length (by omega) (Nat.zero_le _) (Nat.le_refl _) (fun q hq h => by omega) (fun q hq h => by omega)
structure SI (p : Nat) (s : Sl) (xs : List Ky) (S : HS) : Prop where
 cell : S.heap p = .cells 1 [[s.hv]] true
 ov : OV S 1 s (xs.map row1)
 ne : ∀ q,s.a = some q → q.1 ≠ p
 hi : p < S.next
 srt : Srt xs
 cnt : xs.length ≤ 1000
theorem SI.lt {p : Nat} {s : Sl} {xs : List Ky} {S : HS} (h : SI p s xs S) {id : Nat} (ho : Own p s id) : id < S.next := by
 rcases ho with rfl | ⟨q,h1,rfl⟩
 ·exact h.hi
 ·exact h.ov.lt h1
theorem SI.keep {p : Nat} {s : Sl} {xs : List Ky} {S S' : HS} (h : SI p s xs S) (he : ∀ id,Own p s id → S'.heap id = S.heap id) (hn : S.next ≤ S'.next) : SI p s xs S' :=
 ⟨(he p (.inl rfl)).trans h.cell,h.ov.keep (fun q hq => he q.1 (.inr ⟨q,hq,rfl⟩)) hn,h.ne,Nat.lt_of_lt_of_le h.hi hn,h.srt,h.cnt⟩
theorem SI.fr {p : Nat} {s : Sl} {xs : List Ky} {S S' : HS} (h : SI p s xs S) (hf : Fr S.next S S') : SI p s xs S' := h.keep (fun id ho => hf.eq id (h.lt ho)) hf.le
theorem SI.ld {p : Nat} {s : Sl} {xs : List Ky} {S : HS} (h : SI p s xs S) : S.ldSl (HA.fld (HA.cell0 p) 0) = some s := row_ldSl (cell_row h.cell) rfl rfl
theorem SI.slen {p : Nat} {s : Sl} {xs : List Ky} {S : HS} (h : SI p s xs S) : (s.len : Int) = xs.length := by rw [h.ov.len]; simp
theorem set_put {p : Nat} {s s' : Sl} {S : HS} (h : S.heap p = .cells 1 [[s.hv]] true) : S.sets (HA.fld (HA.cell0 p) 0) [s'.hv] = some (S.put p (.cells 1 [[s'.hv]] true)) := (sets_row h rfl (by simp)).trans rfl
theorem ins_spec {p : Nat} {s : Sl} {xs : List Ky} {S : HS} (h : SI p s xs S) {t : Ky} {i : Nat} (hp : PosOf xs t i) (hno : t ∉ xs) (hroom : xs.length < 1000) :
  ∃ s' S' S1,slices_Insert_int_int_w.f s (i : Int) (S.lit [[.int .i64 t]] 1).1 (S.lit [[.int .i64 t]] 1).2 = some (s',S1) ∧ S1.sets (HA.fld (HA.cell0 p) 0) [s'.hv] = some S' ∧ SI p s' (xs.take i ++ [t] ++ xs.drop i) S' ∧ Only p s s' S S' := by
 obtain ⟨s',S1,a1,a2,a3,a4,a5⟩ := ins_ov (row := row1 t) h.ov (i := i) (by simpa using hp.le) (by simp; omega)
 have hcell : S1.heap p = .cells 1 [[s.hv]] true := by rw [a4 p h.hi h.ne]; exact h.cell
 have hne' : ∀ q,s'.a = some q → q.1 ≠ p := fun q hq => by have := a5 q hq; have := h.hi; omega
 refine ⟨s',_,S1,a1,set_put hcell,⟨put_here _ _ _,?_,hne',Nat.lt_of_lt_of_le h.hi a3,ins_srt hp h.srt hno,by simp; omega⟩,⟨by rw [put_next]; exact a3,fun id g1 g2 => ?_,fun id ho => ?_⟩⟩
 ·have hm : (xs.take i ++ [t] ++ xs.drop i).map row1 = (xs.map row1).take i ++ [row1 t] ++ (xs.map row1).drop i := by simp only [List.map_append,List.map_take,List.map_drop,List.map_cons,List.map_nil]
  rw [hm]
  exact a2.keep (fun q hq => put_other _ (hne' q hq)) (Nat.le_refl _)
 ·rw [put_other _ (fun e => g2 (.inl e))]
  exact a4 id g1 (fun q hq e => g2 (.inr ⟨q,hq,e⟩))
 ·rcases ho with g | ⟨q,g1,g2⟩
  ·exact .inl (.inl g)
  ·right; rw [← g2]; exact a5 q g1
theorem del_spec {p : Nat} {s : Sl} {xs : List Ky} {S : HS} (h : SI p s xs S) {i : Nat} (hi : i < xs.length) :
  ∃ s' S' S1,slices_Delete_int_int_w.f s (i : Int) ((i + 1 : Nat) : Int) S = some (s',S1) ∧ S1.sets (HA.fld (HA.cell0 p) 0) [s'.hv] = some S' ∧ SI p s' (xs.eraseIdx i) S' ∧ Only p s s' S S' := by
 have hcnt := h.cnt
 obtain ⟨s',S1,a1,a2,a3,a4,a5⟩ := del_ov h.ov (i := i) (by simpa using hi) (by simp; omega)
 have hcell : S1.heap p = .cells 1 [[s.hv]] true := by rw [a4 p h.hi h.ne]; exact h.cell
 have hne' : ∀ q,s'.a = some q → q.1 ≠ p := fun q hq => by have := a5 q hq; have := h.hi; omega
 refine ⟨s',_,S1,a1,set_put hcell,⟨put_here _ _ _,?_,hne',Nat.lt_of_lt_of_le h.hi a3,erase_srt h.srt i,by rw [List.length_eraseIdx,if_pos hi]; omega⟩,⟨by rw [put_next]; exact a3,fun id g1 g2 => ?_,fun id ho => ?_⟩⟩
 ·rw [Go.ChangeMaps.map_eraseIdx]
  exact a2.keep (fun q hq => put_other _ (hne' q hq)) (Nat.le_refl _)
 ·rw [put_other _ (fun e => g2 (.inl e))]
  exact a4 id g1 (fun q hq e => g2 (.inr ⟨q,hq,e⟩))
 ·rcases ho with g | ⟨q,g1,g2⟩
  ·exact .inl (.inl g)
  ·right; rw [← g2]; exact a5 q g1
theorem add_spec {k p : Nat} {s sl : Sl} {xs ls : List Ky} {S : HS} (hk : 2000 ≤ k) (h : SI p s xs S) (hr : S.rows sl 1 = some (ls.map row1)) (hlt : ∀ q,sl.a = some q → q.1 < S.next ∧ ¬ Own p s q.1) (hc : xs.length + ls.length ≤ 1000) :
  ∃ s' xs' S',set_Set_int_Add.f k (some (HA.cell0 p)) sl S = some ((xs'.length : Int) - xs.length,S') ∧ SI p s' xs' S' ∧ Only p s s' S S' ∧ (∀ v,v ∈ xs' ↔ v ∈ xs ∨ v ∈ ls) ∧ xs.length ≤ xs'.length ∧ xs'.length ≤ xs.length + ls.length := by
 have hsl : (sl.len : Int) = ls.length := by rw [← rows_len hr]; simp
 have hloop : ∀ (f i : Nat) (T : HS) (s1 : Sl) (ys : List Ky),ls.length - i < f → i ≤ ls.length → SI p s1 ys T → Only p s s1 S T → (∀ v,v ∈ ys ↔ v ∈ xs ∨ v ∈ ls.take i) → xs.length ≤ ys.length → ys.length ≤ xs.length + i →
   ∃ s' xs' S',set_Set_int_Add.L0 k f (some (HA.cell0 p)) ((ys.length : Int) - xs.length) sl (ls.length : Int) (i : Int) T = some ((xs'.length : Int) - xs.length,S') ∧ SI p s' xs' S' ∧ Only p s s' S S' ∧ (∀ v,v ∈ xs' ↔ v ∈ xs ∨ v ∈ ls) ∧ xs.length ≤ xs'.length ∧ xs'.length ≤ xs.length + ls.length := by
  intro f
  induction f with
  | zero => intro i T s1 ys h; omega
  | succ f ih =>
   intro i T s1 ys hf hi hT hO hm hge hle
   have hrT : T.rows sl 1 = some (ls.map row1) := rows_keep hr fun q hq => hO.eq q.1 (hlt q hq).1 (hlt q hq).2
   rw [set_Set_int_Add.L0]
   by_cases hil : i < ls.length
   ·obtain ⟨ad,a1,a2⟩ := ldK_at hrT hil
    obtain ⟨j,b1,hp⟩ := bs_spec (t := ls[i]) hk hT.srt hT.cnt hT.ov.rows
    have hmem : ∀ v,(v ∈ ls.take (i + 1) ↔ v ∈ ls.take i ∨ v = ls[i]) := fun v => by rw [List.take_succ_eq_append_getElem hil,List.mem_append,List.mem_singleton]
    rw [if_pos (by omega),a1,obs,a2,obs,obs,hT.ld,obs,b1,obs]
    simp only
    by_cases hin : ls[i] ∈ ys
    ·rw [decide_eq_true hin,if_neg (by simp),set_Set_int_Add.J1,w64_id (by omega) (by omega),show ((i : Int) + 1) = ((i + 1 : Nat) : Int) by simp]
     refine ih (i + 1) T s1 ys (by omega) (by omega) hT hO (fun v => ?_) hge (by omega)
     rw [hmem,← or_assoc,← hm]
     exact ⟨fun h => .inl h,fun h => h.elim id (fun e => e ▸ hin)⟩
    ·obtain ⟨s2,T2,T1,c1,c2,c3,c4⟩ := ins_spec hT hp hin (by omega)
     have hlen : (ys.take j ++ [ls[i]] ++ ys.drop j).length = ys.length + 1 := by
      have := hp.le
      simp only [List.length_append,List.length_take,List.length_drop,List.length_singleton]; omega
     rw [decide_eq_false hin,if_pos (by simp),obs,hT.ld,obs,letv,c1,obs,obs,c2,obs,set_Set_int_Add.J1,w64_id (n := (i : Int) + 1) (by omega) (by omega),show ((i : Int) + 1) = ((i + 1 : Nat) : Int) by simp,w64_id (by omega) (by omega)]
     have e : (ys.length : Int) - xs.length + 1 = ((ys.take j ++ [ls[i]] ++ ys.drop j).length : Int) - xs.length := by rw [hlen]; omega
     rw [e]
     refine ih (i + 1) T2 s2 _ (by omega) (by omega) c3 (hO.trans c4) (fun v => ?_) (by omega) (by omega)
     rw [ins_mem,hmem,← or_assoc,← hm]
   ·obtain rfl : i = ls.length := by omega
    rw [if_neg (by omega)]
    rw [List.take_length] at hm
    exact ⟨s1,ys,T,rfl,hT,hO,hm,hge,hle⟩
 rw [set_Set_int_Add.f,if_neg (by simp),hsl]
 have := hloop k 0 S s xs (by omega) (Nat.zero_le _) h (Only.refl _ _ _) (fun v => by simp) (Nat.le_refl _) (by omega)
 rw [show ((xs.length : Int) - xs.length) = 0 by omega] at this
 exact this
theorem remove_spec {k p : Nat} {s sl : Sl} {xs ls : List Ky} {S : HS} (hk : 2000 ≤ k) (h : SI p s xs S) (hr : S.rows sl 1 = some (ls.map row1)) (hlt : ∀ q,sl.a = some q → q.1 < S.next ∧ ¬ Own p s q.1) (hc : ls.length ≤ 1000) :
  ∃ s' xs' S',set_Set_int_Remove.f k (some (HA.cell0 p)) sl S = some ((xs.length : Int) - xs'.length,S') ∧ SI p s' xs' S' ∧ Only p s s' S S' ∧ (∀ v,v ∈ xs' ↔ v ∈ xs ∧ v ∉ ls) ∧ xs'.length ≤ xs.length := by
 have hsl : (sl.len : Int) = ls.length := by rw [← rows_len hr]; simp
 have hcnt := h.cnt
 have hloop : ∀ (f i : Nat) (T : HS) (s1 : Sl) (ys : List Ky),ls.length - i < f → i ≤ ls.length → SI p s1 ys T → Only p s s1 S T → (∀ v,v ∈ ys ↔ v ∈ xs ∧ v ∉ ls.take i) → ys.length ≤ xs.length →
   ∃ s' xs' S',set_Set_int_Remove.L0 k f (some (HA.cell0 p)) ((xs.length : Int) - ys.length) sl (ls.length : Int) (i : Int) T = some ((xs.length : Int) - xs'.length,S') ∧ SI p s' xs' S' ∧ Only p s s' S S' ∧ (∀ v,v ∈ xs' ↔ v ∈ xs ∧ v ∉ ls) ∧ xs'.length ≤ xs.length := by
  intro f
  induction f with
  | zero => intro i T s1 ys h; omega
  | succ f ih =>
   intro i T s1 ys hf hi hT hO hm hle
   have hrT : T.rows sl 1 = some (ls.map row1) := rows_keep hr fun q hq => hO.eq q.1 (hlt q hq).1 (hlt q hq).2
   rw [set_Set_int_Remove.L0]
   by_cases hil : i < ls.length
   ·obtain ⟨ad,a1,a2⟩ := ldK_at hrT hil
    obtain ⟨j,b1,hp⟩ := bs_spec (t := ls[i]) hk hT.srt hT.cnt hT.ov.rows
    have hmem : ∀ v,(v ∉ ls.take (i + 1) ↔ v ∉ ls.take i ∧ v ≠ ls[i]) := fun v => by rw [List.take_succ_eq_append_getElem hil,List.mem_append,List.mem_singleton,not_or]
    rw [if_pos (by omega),a1,obs,a2,obs,obs,hT.ld,obs,b1,obs]
    simp only
    by_cases hin : ls[i] ∈ ys
    ·obtain ⟨hj,he⟩ := hp.here hT.srt hin
     obtain ⟨s2,T2,T1,c1,c2,c3,c4⟩ := del_spec hT hj
     have hlen : (ys.eraseIdx j).length = ys.length - 1 := by rw [List.length_eraseIdx,if_pos hj]
     rw [decide_eq_true hin,if_pos rfl,obs,hT.ld,obs,w64_id (n := (j : Int) + 1) (by omega) (by omega),show ((j : Int) + 1) = ((j + 1 : Nat) : Int) by simp,c1,obs,obs,c2,obs,set_Set_int_Remove.J1,w64_id (n := (i : Int) + 1) (by omega) (by omega),show ((i : Int) + 1) = ((i + 1 : Nat) : Int) by simp,w64_id (by omega) (by omega)]
     have e : (xs.length : Int) - ys.length + 1 = (xs.length : Int) - ((ys.eraseIdx j).length : Int) := by rw [hlen]; omega
     rw [e]
     refine ih (i + 1) T2 s2 _ (by omega) (by omega) c3 (hO.trans c4) (fun v => ?_) (by omega)
     rw [erase_mem hT.srt hj,hmem,← and_assoc,← hm,he]
    ·rw [decide_eq_false hin,if_neg (by simp),set_Set_int_Remove.J1,w64_id (by omega) (by omega),show ((i : Int) + 1) = ((i + 1 : Nat) : Int) by simp]
     refine ih (i + 1) T s1 ys (by omega) (by omega) hT hO (fun v => ?_) hle
     rw [hmem,← and_assoc,← hm]
     exact ⟨fun h => ⟨h,fun e => hin (e ▸ h)⟩,fun h => h.1⟩
   ·obtain rfl : i = ls.length := by omega
    rw [if_neg (by omega)]
    rw [List.take_length] at hm
    exact ⟨s1,ys,T,rfl,hT,hO,hm,hle⟩
 rw [set_Set_int_Remove.f,if_neg (by simp),hsl]
 have := hloop k 0 S s xs (by omega) (Nat.zero_le _) h (Only.refl _ _ _) (fun v => by simp) (Nat.le_refl _)
 rw [show ((xs.length : Int) - xs.length) = 0 by omega] at this
 exact this
theorem len_spec {p : Nat} {s : Sl} {xs : List Ky} {S : HS} (h : SI p s xs S) : set_Set_int_Len.f (some (HA.cell0 p)) S = some ((xs.length : Int),S) := by
 rw [set_Set_int_Len.f,if_neg (by simp),obs,h.ld,obs,h.slen]
theorem of_spec {k : Nat} {sl : Sl} {ls : List Ky} {S : HS} (hk : 2000 ≤ k) (hr : Rd S.next S 1 sl (ls.map row1)) (hc : ls.length ≤ 1000) :
  ∃ s' xs' S',set_Of_int.f k sl S = some (some (HA.cell0 S.next),S') ∧ SI S.next s' xs' S' ∧ Fr S.next S S' ∧ (∀ id,Own S.next s' id → S.next ≤ id) ∧ (∀ v,v ∈ xs' ↔ v ∈ ls) ∧ xs'.length ≤ ls.length := by
 have fn : Fr S.next S (S.new (.cells 1 [[Sl.nil.hv]] true)) := Fr.new (Nat.le_refl _) _
 have h0 : SI S.next Sl.nil [] (S.new (.cells 1 [[Sl.nil.hv]] true)) := ⟨new_here _ _,.inl ⟨rfl,rfl,rfl⟩,fun q hq => (by cases hq),Nat.lt_succ_self _,List.Pairwise.nil,by simp⟩
 have nn : (S.new (.cells 1 [[Sl.nil.hv]] true)).next = S.next + 1 := rfl
 obtain ⟨s',xs',S',e,g1,g2,g3,g4,g5⟩ := add_spec hk h0 (hr.frame fn (Nat.le_refl _)).rows (fun q hq => ⟨by have := hr.lt q hq; omega,fun ho => by
  rcases ho with g | ⟨q',g,_⟩
  ·have := hr.lt q hq; omega
  ·cases g⟩) (by simpa using hc)
 rw [set_Of_int.f,letv,e,obs]
 refine ⟨s',xs',S',rfl,g1,⟨by have := g2.le; omega,fun id hid => ?_⟩,fun id ho => ?_,fun v => by rw [g3]; simp,by simpa using g5⟩
 ·rw [g2.eq id (by omega) (fun ho => by
   rcases ho with g | ⟨q',g,_⟩
   ·omega
   ·cases g)]
  exact fn.eq id hid
 ·rcases g2.own id ho with g | g
  ·rcases g with g | ⟨q',g,_⟩
   ·omega
   ·cases g
  ·omega
end KI
end Go.Proofs.YtbmfomkfmpppiaaGreat.X
