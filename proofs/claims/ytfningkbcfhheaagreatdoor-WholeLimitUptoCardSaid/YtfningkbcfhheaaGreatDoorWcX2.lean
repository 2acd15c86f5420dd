/- Functions of the program, each as a Lean function over the layer HL: a call answers what the Lean function answers, where it answers. -/
import Derived.Test.YtfningkbcfhheaaGreatDoorProg
import Derived.Test.YtfningkbcfhheaaGreatDoorPart12
set_option linter.unusedVariables false
set_option linter.unusedSimpArgs false
namespace Go.Proofs.YtfningkbcfhheaaGreatDoor.X
open Go.Proofs.YtfningkbcfhheaaGreatDoor.HL
set_option linter.unusedVariables false
set_option linter.unusedSimpArgs false
set_option maxRecDepth 20000
set_option maxHeartbeats 4000000
namespace slices_Insert_int_int
theorem at_ : FnAt Tryz.prog 254 Tryz.f254 := ⟨Tryz.func254,by kernel_rfl⟩
noncomputable def d0 := (Tryz.f254.body).getD .skip
noncomputable def r1 := kR (kA d0)
noncomputable def r3 := kR (kA (kB d0))
noncomputable def r5 := kR (kA (kB (kB d0)))
noncomputable def d6 := kB (kB (kB d0))
noncomputable def r8 := kR (kA (kA d6))
noncomputable def r11 := kR (kA (kA (kB (kA d6))))
noncomputable def r15 := kR (kA (kB d6))
noncomputable def r18 := kR (kA (kA (kB (kB d6))))
noncomputable def r21 := kR (kA (kA (kB (kA (kB (kB d6))))))
noncomputable def d24 := kB (kB (kB d6))
noncomputable def r26 := kR (kA (kA d24))
noncomputable def d28 := kA (kB (kA d24))
noncomputable def r29 := kR (kA d28)
noncomputable def r31 := kR (kA (kB d28))
noncomputable def r33 := kR (kA (kB (kB d28)))
noncomputable def r35 := kR (kA (kB (kB (kB d28))))
noncomputable def r39 := kR (kA (kB d24))
noncomputable def d41 := kA (kB (kB d24))
noncomputable def r42 := kR (kA d41)
noncomputable def r45 := kR (kA (kA (kB d41)))
noncomputable def r47 := kR (kA (kB (kA (kB d41))))
noncomputable def r49 := kR (kA (kB (kB (kA (kB d41)))))
noncomputable def r53 := kR (kA (kB (kB (kB d24))))
noncomputable def r55 := kR (kA (kB (kB (kB (kB d24)))))
noncomputable def r57 := kR (kA (kB (kB (kB (kB (kB d24))))))
noncomputable def c0 : Code := .seq (.region 0 r1 false) (.seq (.region 1 r3 false) (.seq (.region 2 r5 false) (.seq (.seq (.region 3 r8 false) (.cond (.tmp 16) (.seq (.region 4 r11 false) .ret) .skip)) (.seq (.region 5 r15 false) (.seq (.seq (.region 6 r18 false) (.cond (.tmp 22) (.seq (.region 7 r21 false) .ret) .skip)) (.seq (.seq (.region 8 r26 false) (.cond (.tmp 31) (.seq (.region 9 r29 false) (.seq (.region 10 r31 false) (.seq (.region 11 r33 true) (.seq (.region 12 r35 false) .ret)))) .skip)) (.seq (.region 13 r39 false) (.seq (.seq (.region 14 r42 false) (.cond (.tmp 68) (.seq (.region 15 r45 true) (.seq (.region 16 r47 false) (.seq (.region 17 r49 false) .ret))) .skip)) (.seq (.region 18 r53 false) (.seq (.region 19 r55 false) (.seq (.region 20 r57 false) .ret)))))))))))
theorem body : Tryz.f254.body = some c0 := by kernel_rfl
section
variable {base : Nat} {W0 : Env} {β0 : Bt}
def f (k : Nat) (x0 : Sl) (x1 : Int) (x2 : Sl) (S : HS) : Option ((Sl) × HS) :=
 (Option.bind (HS.cut S x0 x1 (Sl.len x0 : Int) 1) fun p1 =>
 (if (Sl.len x2 : Int) = 0 then
 some (x0,S) else
 (if x1 = (Sl.len x0 : Int) then
 (Option.bind (HS.rows S x2 1) fun p4 =>
 (Option.bind (HS.app S x0 p4 1) fun p5 =>
 some ((p5.1),(p5.2)))) else
 (Option.bind (Sl.capOf x0) fun p6 =>
 (if (w64 ((Sl.len x0 : Int) + (Sl.len x2 : Int))) > p6 then
 (Option.bind (HS.cut S x0 0 x1 1) fun p8 =>
 (Option.bind (HS.appZ S p8 (w64 ((w64 ((Sl.len x0 : Int) + (Sl.len x2 : Int))) - x1)) [(.int .i64 0)] 1) fun p9 =>
 (Option.bind (HS.cut (p9.2) (p9.1) x1 (Sl.len (p9.1) : Int) 1) fun p10 =>
 (Option.bind (HS.rows (p9.2) x2 1) fun p11 =>
 (Option.bind (HS.over (p9.2) p10 (List.take (Sl.len p10) p11) 1) fun p12 =>
 (Option.bind (HS.cut p12 (p9.1) (w64 (x1 + (Sl.len x2 : Int))) (Sl.len (p9.1) : Int) 1) fun p13 =>
 (Option.bind (HS.cut p12 x0 x1 (Sl.len x0 : Int) 1) fun p14 =>
 (Option.bind (HS.rows p12 p14 1) fun p15 =>
 (Option.bind (HS.over p12 p13 (List.take (Sl.len p13) p15) 1) fun p16 =>
 some ((p9.1),p16)))))))))) else
 (Option.bind (HS.cut S x0 0 (w64 ((Sl.len x0 : Int) + (Sl.len x2 : Int))) 1) fun p17 =>
 (Option.bind (HS.cut S p17 (w64 (x1 + (Sl.len x2 : Int))) (Sl.len p17 : Int) 1) fun p18 =>
 (Option.bind (HS.ovl S x2 p18) fun p19 =>
 (if (!p19) = true then
 (Option.bind (HS.cut S p17 (w64 (x1 + (Sl.len x2 : Int))) (Sl.len p17 : Int) 1) fun p21 =>
 (Option.bind (HS.cut S p17 x1 (Sl.len p17 : Int) 1) fun p22 =>
 (Option.bind (HS.rows S p22 1) fun p23 =>
 (Option.bind (HS.over S p21 (List.take (Sl.len p21) p23) 1) fun p24 =>
 (Option.bind (HS.cut p24 p17 x1 (Sl.len p17 : Int) 1) fun p25 =>
 (Option.bind (HS.rows p24 x2 1) fun p26 =>
 (Option.bind (HS.over p24 p25 (List.take (Sl.len p25) p26) 1) fun p27 =>
 some (p17,p27)))))))) else
 (Option.bind (HS.cut S p17 (Sl.len x0 : Int) (Sl.len p17 : Int) 1) fun p28 =>
 (Option.bind (HS.rows S x2 1) fun p29 =>
 (Option.bind (HS.over S p28 (List.take (Sl.len p28) p29) 1) fun p30 =>
 (Option.bind (HS.cut p30 p17 x1 (Sl.len p17 : Int) 1) fun p31 =>
 (Option.bind (slices_rotateRight_int.f k p31 (Sl.len x2 : Int) p30) fun p32 =>
 some (p17,p32.2)))))))))))))))
theorem snd {k : Nat} {x0 : Sl} {x1 : Int} {x2 : Sl} {S : HS}  {p : (Sl) × HS} (h : f k x0 x1 x2 S = some p) : HCall Tryz.prog base W0 β0 254 [(Sl.hv x0),(.int .i64 x1),(Sl.hv x2)] S (fun v S1 => v = (Sl.hv p.1) ∧ S1 = p.2) := by
 unfold f at h
 refine HCall.of_run at_.at_ body ?_
 show HRun Tryz.prog base W0 β0 254 none [.code c0] ⟨[(Sl.hv x0),(.int .i64 x1),(Sl.hv x2),τ,τ,τ,τ,τ,τ,τ,τ,τ,τ,τ,τ,τ,τ,τ,τ,τ,τ,τ,τ,τ,τ,τ,τ,τ,τ,τ,τ,τ,τ,τ,τ,τ,τ,τ,τ,τ,τ,τ,τ,τ,τ,τ,τ,τ,τ,τ,τ,τ,τ,τ,τ,τ,τ,τ,τ,τ,τ,τ,τ,τ,τ,τ,τ,τ,τ,τ,τ,τ,τ,τ,τ,τ,τ,τ,τ,τ,τ,τ,τ,τ,τ,τ,τ,τ,τ,τ,τ,τ,τ,τ,τ],[]⟩ S _
 refine qQ rfl (qR rfl rfl (qS 6 rfl (ok_assign · (.const fun _ => .slNil none)) (rE ?_)))
 try dsimp only [w0,w1,w2,w3]
 obtain ⟨p1,hp1,h⟩ := bindo h
 refine qQ rfl (qR rfl rfl (qS 10 rfl (oM · rfl) (qS 11 rfl (oM · rfl) (qS 12 rfl (ok_slice (kl := .i64) (kh := .i64) (s := x0) (l := x1) (h := (Sl.len x0 : Int)) · tu76 si3 (.tmp rfl) (.inr ⟨_,rfl,(.tmp rfl)⟩) (.inl ⟨rfl,rfl⟩) hp1) (rE ?_)))))
 try dsimp only [w0,w1,w2,w3]
 refine qQ rfl (qR rfl rfl (qS 13 rfl (oM · rfl) (qS 14 rfl (ok_len_sl (q := Sl.a x2) (n := Sl.len x2) (z := Sl.cap x2) · rfl tu76 (.tmp rfl)) (qS 7 rfl (oA · rfl) (rE ?_)))))
 try dsimp only [w0,w1,w2,w3]
 refine qQ rfl (qQ rfl (qR rfl rfl (qS 15 rfl (oM · rfl) (qS 16 rfl (oC · rfl rfl) (rE ?_)))))
 try dsimp only [w0,w1,w2,w3]
 rcases ifc h with ⟨hc2,h⟩ | ⟨hc2,h⟩
 ·refine q_cond_t rfl (.tmp rfl) (decide_eq_true hc2) (qQ rfl (qR rfl rfl (qS 17 rfl (oM · rfl) (qS 6 rfl (oA · rfl) (rE ?_)))))
  try dsimp only [w0,w1,w2,w3]
  cases h
  exact q_ret rfl at_.at_ rfl (res1 rfl rfl) ⟨rfl,rfl⟩
 ·refine q_cond_f rfl (.tmp rfl) (decide_eq_false hc2) (q_skipc rfl (qQ rfl (qR rfl rfl (qS 18 rfl (oM · rfl) (qS 19 rfl (ok_len_sl (q := Sl.a x0) (n := Sl.len x0) (z := Sl.cap x0) · rfl tu76 (.tmp rfl)) (qS 8 rfl (oA · rfl) (rE ?_)))))))
  try dsimp only [w0,w1,w2,w3]
  refine qQ rfl (qQ rfl (qR rfl rfl (qS 20 rfl (oM · rfl) (qS 21 rfl (oM · rfl) (qS 22 rfl (oB · rfl rfl rfl) (rE ?_))))))
  try dsimp only [w0,w1,w2,w3]
  rcases ifc h with ⟨hc3,h⟩ | ⟨hc3,h⟩
  ·obtain ⟨p4,hp4,h⟩ := bindo h
   obtain ⟨p5,hp5,h⟩ := bindo h
   refine q_cond_t rfl (.tmp rfl) (decide_eq_true hc3) (qQ rfl (qR rfl rfl (qS 23 rfl (oM · rfl) (qS 24 rfl (oM · rfl) (qS 25 rfl (ok_append (s := x0) (s1 := x2) el76 · rfl rfl ⟨_,tu76⟩ (.tmp rfl) (.tmp rfl) hp4 hp5) (qS 6 rfl (oA · rfl) (rE ?_)))))))
   try dsimp only [w0,w1,w2,w3]
   cases h
   exact q_ret rfl at_.at_ rfl (res1 rfl rfl) ⟨rfl,rfl⟩
  ·refine q_cond_f rfl (.tmp rfl) (decide_eq_false hc3) (q_skipc rfl (qQ rfl (qQ rfl (qR rfl rfl (qS 26 rfl (oM · rfl) (qS 27 rfl (oM · rfl) (qS 28 rfl (oB · rfl rfl rfl) (qS 29 rfl (oM · rfl) ?_))))))))
   try dsimp only [w0,w1,w2,w3]
   obtain ⟨p6,hp6,h⟩ := bindo h
   refine qS 30 rfl (ok_cap (s := x0) · rfl tu76 (.tmp rfl) hp6) (qS 31 rfl (oB · rfl rfl rfl) (rE ?_))
   try dsimp only [w0,w1,w2,w3]
   rcases ifc h with ⟨hc7,h⟩ | ⟨hc7,h⟩
   ·obtain ⟨p8,hp8,h⟩ := bindo h
    refine q_cond_t rfl (.tmp rfl) (decide_eq_true hc7) (qQ rfl (qR rfl rfl (qS 32 rfl (oM · rfl) (qS 33 rfl (oM · rfl) (qS 34 rfl (ok_slice (kl := .i64) (kh := .i64) (s := x0) (l := 0) (h := x1) · tu76 si3 (.tmp rfl) (.inl ⟨rfl,rfl⟩) (.inr ⟨_,rfl,(.tmp rfl)⟩) hp8) (qS 35 rfl (oM · rfl) ?_))))))
    try dsimp only [w0,w1,w2,w3]
    refine qS 36 rfl (oM · rfl) (qS 37 rfl (oB · rfl rfl rfl) (qS 38 rfl (oM · rfl) (qS 39 rfl (oB · rfl rfl rfl) ?_)))
    try dsimp only [w0,w1,w2,w3]
    obtain ⟨p9,hp9,h⟩ := bindo h
    refine qS 40 rfl (ok_append_zeros (s := p8) el76 · rfl rfl tu3 (.tmp rfl) (.tmp rfl) hp9) (qS 9 rfl (oA · rfl) (rE ?_))
    try dsimp only [w0,w1,w2,w3]
    obtain ⟨p10,hp10,h⟩ := bindo h
    refine qQ rfl (qR rfl rfl (qS 41 rfl (oM · rfl) (qS 42 rfl (oM · rfl) (qS 43 rfl (ok_slice (kl := .i64) (kh := .i64) (s := (p9.1)) (l := x1) (h := (Sl.len (p9.1) : Int)) · tu76 si3 (.tmp rfl) (.inr ⟨_,rfl,(.tmp rfl)⟩) (.inl ⟨rfl,rfl⟩) hp10) (qS 44 rfl (oM · rfl) ?_)))))
    try dsimp only [w0,w1,w2,w3]
    obtain ⟨p11,hp11,h⟩ := bindo h
    obtain ⟨p12,hp12,h⟩ := bindo h
    refine qS 45 rfl (ok_copy (s := p10) (s1 := x2) el76 · rfl (.tmp rfl) (.tmp rfl) hp11 hp12) (rE ?_)
    try dsimp only [w0,w1,w2,w3]
    refine qQ rfl ?_
    refine x_start (cls := [0,0,0,0,1,0,0,1,2]) (rk := [0,1,2,3,4,5,6,7,8]) rfl (by kernel_rfl) ?_
    refine yf 46 [9] rfl (oM · rfl) ?_
    refine yf 47 [1] rfl (oM · rfl) ?_
    refine yf 48 [7] rfl (oM · rfl) ?_
    refine yf 49 [47,48] rfl (oB · rfl rfl rfl) ?_
    try dsimp only [w0,w1,w2,w3]
    obtain ⟨p13,hp13,h⟩ := bindo h
    refine yr 50 [46,49] rfl (ok_slice (kl := .i64) (kh := .i64) (s := (p9.1)) (l := (w64 (x1 + (Sl.len x2 : Int)))) (h := (Sl.len (p9.1) : Int)) · tu76 si3 (.tmp rfl) (.inr ⟨_,rfl,(.tmp rfl)⟩) (.inl ⟨rfl,rfl⟩) hp13) ?_
    refine yf 51 [0] rfl (oM · rfl) ?_
    refine yf 52 [1] rfl (oM · rfl) ?_
    obtain ⟨p14,hp14,h⟩ := bindo h
    refine yr 53 [51,52] rfl (ok_slice (kl := .i64) (kh := .i64) (s := x0) (l := x1) (h := (Sl.len x0 : Int)) · tu76 si3 (.tmp rfl) (.inr ⟨_,rfl,(.tmp rfl)⟩) (.inl ⟨rfl,rfl⟩) hp14) ?_
    try dsimp only [w0,w1,w2,w3]
    obtain ⟨p15,hp15,h⟩ := bindo h
    obtain ⟨p16,hp16,h⟩ := bindo h
    refine ye 54 [50,53] rfl (ok_copy (s := p13) (s1 := p14) el76 · rfl (.tmp rfl) (.tmp rfl) hp15 hp16) ?_
    refine x_rest rfl ?_
    refine rE ?_
    try dsimp only [w0,w1,w2,w3]
    refine qQ rfl (qR rfl rfl (qS 55 rfl (oM · rfl) (qS 6 rfl (oA · rfl) (rE ?_))))
    try dsimp only [w0,w1,w2,w3]
    cases h
    exact q_ret rfl at_.at_ rfl (res1 rfl rfl) ⟨rfl,rfl⟩
   ·refine q_cond_f rfl (.tmp rfl) (decide_eq_false hc7) (q_skipc rfl (qQ rfl (qR rfl rfl (qS 56 rfl (oM · rfl) (qS 57 rfl (oM · rfl) (qS 58 rfl (oM · rfl) (qS 59 rfl (oB · rfl rfl rfl) ?_)))))))
    try dsimp only [w0,w1,w2,w3]
    obtain ⟨p17,hp17,h⟩ := bindo h
    refine qS 60 rfl (ok_slice (kl := .i64) (kh := .i64) (s := x0) (l := 0) (h := (w64 ((Sl.len x0 : Int) + (Sl.len x2 : Int)))) · tu76 si3 (.tmp rfl) (.inl ⟨rfl,rfl⟩) (.inr ⟨_,rfl,(.tmp rfl)⟩) hp17) (qS 0 rfl (oA · rfl) (rE ?_))
    try dsimp only [w0,w1,w2,w3]
    refine qQ rfl (qQ rfl (qR rfl rfl (qS 61 rfl (oM · rfl) (qS 62 rfl (oM · rfl) (qS 63 rfl (oM · rfl) (qS 64 rfl (oM · rfl) ?_))))))
    try dsimp only [w0,w1,w2,w3]
    obtain ⟨p18,hp18,h⟩ := bindo h
    obtain ⟨p19,hp19,h⟩ := bindo h
    refine qS 65 rfl (oB · rfl rfl rfl) (qS 66 rfl (ok_slice (kl := .i64) (kh := .i64) (s := p17) (l := (w64 (x1 + (Sl.len x2 : Int)))) (h := (Sl.len p17 : Int)) · tu76 si3 (.tmp rfl) (.inr ⟨_,rfl,(.tmp rfl)⟩) (.inl ⟨rfl,rfl⟩) hp18) (qS 67 rfl (ok_overlaps (s1 := x2) (s2 := p18) · ext349 tu76 si3 (.tmp rfl) (.tmp rfl) hp19) (qS 68 rfl (ok_not · (.tmp rfl)) (rE ?_))))
    try dsimp only [w0,w1,w2,w3]
    rcases ifc h with ⟨hc20,h⟩ | ⟨hc20,h⟩
    ·refine q_cond_t rfl (.tmp rfl) hc20 (qQ rfl ?_)
     refine x_start (cls := [0,0,0,0,1,0,0,1,2]) (rk := [0,1,2,3,4,5,6,7,8]) rfl (by kernel_rfl) ?_
     refine yf 69 [0] rfl (oM · rfl) ?_
     refine yf 70 [1] rfl (oM · rfl) ?_
     refine yf 71 [7] rfl (oM · rfl) ?_
     refine yf 72 [70,71] rfl (oB · rfl rfl rfl) ?_
     try dsimp only [w0,w1,w2,w3]
     obtain ⟨p21,hp21,h⟩ := bindo h
     refine yr 73 [69,72] rfl (ok_slice (kl := .i64) (kh := .i64) (s := p17) (l := (w64 (x1 + (Sl.len x2 : Int)))) (h := (Sl.len p17 : Int)) · tu76 si3 (.tmp rfl) (.inr ⟨_,rfl,(.tmp rfl)⟩) (.inl ⟨rfl,rfl⟩) hp21) ?_
     refine yf 74 [0] rfl (oM · rfl) ?_
     refine yf 75 [1] rfl (oM · rfl) ?_
     obtain ⟨p22,hp22,h⟩ := bindo h
     refine yr 76 [74,75] rfl (ok_slice (kl := .i64) (kh := .i64) (s := p17) (l := x1) (h := (Sl.len p17 : Int)) · tu76 si3 (.tmp rfl) (.inr ⟨_,rfl,(.tmp rfl)⟩) (.inl ⟨rfl,rfl⟩) hp22) ?_
     try dsimp only [w0,w1,w2,w3]
     obtain ⟨p23,hp23,h⟩ := bindo h
     obtain ⟨p24,hp24,h⟩ := bindo h
     refine ye 77 [73,76] rfl (ok_copy (s := p21) (s1 := p22) el76 · rfl (.tmp rfl) (.tmp rfl) hp23 hp24) ?_
     refine x_rest rfl ?_
     refine rE ?_
     try dsimp only [w0,w1,w2,w3]
     obtain ⟨p25,hp25,h⟩ := bindo h
     refine qQ rfl (qR rfl rfl (qS 78 rfl (oM · rfl) (qS 79 rfl (oM · rfl) (qS 80 rfl (ok_slice (kl := .i64) (kh := .i64) (s := p17) (l := x1) (h := (Sl.len p17 : Int)) · tu76 si3 (.tmp rfl) (.inr ⟨_,rfl,(.tmp rfl)⟩) (.inl ⟨rfl,rfl⟩) hp25) (qS 81 rfl (oM · rfl) ?_)))))
     try dsimp only [w0,w1,w2,w3]
     obtain ⟨p26,hp26,h⟩ := bindo h
     obtain ⟨p27,hp27,h⟩ := bindo h
     refine qS 82 rfl (ok_copy (s := p25) (s1 := x2) el76 · rfl (.tmp rfl) (.tmp rfl) hp26 hp27) (rE ?_)
     try dsimp only [w0,w1,w2,w3]
     refine qQ rfl (qR rfl rfl (qS 83 rfl (oM · rfl) (qS 6 rfl (oA · rfl) (rE ?_))))
     try dsimp only [w0,w1,w2,w3]
     cases h
     exact q_ret rfl at_.at_ rfl (res1 rfl rfl) ⟨rfl,rfl⟩
    ·obtain ⟨p28,hp28,h⟩ := bindo h
     refine q_cond_f rfl (.tmp rfl) (bfalse hc20) (q_skipc rfl (qQ rfl (qR rfl rfl (qS 84 rfl (oM · rfl) (qS 85 rfl (oM · rfl) (qS 86 rfl (ok_slice (kl := .i64) (kh := .i64) (s := p17) (l := (Sl.len x0 : Int)) (h := (Sl.len p17 : Int)) · tu76 si3 (.tmp rfl) (.inr ⟨_,rfl,(.tmp rfl)⟩) (.inl ⟨rfl,rfl⟩) hp28) (qS 87 rfl (oM · rfl) ?_)))))))
     try dsimp only [w0,w1,w2,w3]
     obtain ⟨p29,hp29,h⟩ := bindo h
     obtain ⟨p30,hp30,h⟩ := bindo h
     refine qS 88 rfl (ok_copy (s := p28) (s1 := x2) el76 · rfl (.tmp rfl) (.tmp rfl) hp29 hp30) (rE ?_)
     try dsimp only [w0,w1,w2,w3]
     obtain ⟨p31,hp31,h⟩ := bindo h
     refine qQ rfl (qR rfl rfl (qS 89 rfl (oM · rfl) (qS 90 rfl (oM · rfl) (qS 91 rfl (ok_slice (kl := .i64) (kh := .i64) (s := p17) (l := x1) (h := (Sl.len p17 : Int)) · tu76 si3 (.tmp rfl) (.inr ⟨_,rfl,(.tmp rfl)⟩) (.inl ⟨rfl,rfl⟩) hp31) (qS 92 rfl (oM · rfl) ?_)))))
     try dsimp only [w0,w1,w2,w3]
     obtain ⟨p32,hp32,h⟩ := bindo h
     refine q_call (dst := some 93) rfl (.func _) (.cons (.tmp rfl) (.cons (.tmp rfl) Evs.nil)) (HInv.static slices_rotateRight_int.at_ slices_rotateRight_int.body (slices_rotateRight_int.snd  hp32)) ?_
     rintro _ _ ⟨rfl,rfl⟩
     refine rE ?_
     try dsimp only [w0,w1,w2,w3]
     refine qQ rfl (qR rfl rfl (qS 94 rfl (oM · rfl) (qS 6 rfl (oA · rfl) (rE ?_))))
     try dsimp only [w0,w1,w2,w3]
     cases h
     exact q_ret rfl at_.at_ rfl (res1 rfl rfl) ⟨rfl,rfl⟩
end
end slices_Insert_int_int
namespace slices_Insert_int_int_w
theorem at_ : FnAt Tryz.prog 254 Tryz.f254 := slices_Insert_int_int.at_
theorem body : Tryz.f254.body = some slices_Insert_int_int.c0 := slices_Insert_int_int.body
def f (x0 : Sl) (x1 : Int) (x2 : Sl) (S : HS) : Option ((Sl) × HS) := HS.ins S x0 x1 x2 1
theorem snd {base : Nat} {W0 : Env} {β0 : Bt} {x0 : Sl} {x1 : Int} {x2 : Sl} {S : HS} {p : (Sl) × HS} (h : f x0 x1 x2 S = some p) : HCall Tryz.prog base W0 β0 254 [(Sl.hv x0),(.int .i64 x1),(Sl.hv x2)] S (fun v S1 => v = (Sl.hv p.1) ∧ S1 = p.2) :=
 ins_snd (rot := fun a b T => slices_rotateRight_int.f 0 a b T) (zr := [(.int .i64 0)]) (fun _ _ _ h => slices_Insert_int_int.snd (k := 0) h) h
end slices_Insert_int_int_w
namespace slices_Delete_api_Member_api_Member
theorem at_ : FnAt Tryz.prog 355 Tryz.f355 := ⟨Tryz.func355,by kernel_rfl⟩
noncomputable def d0 := (Tryz.f355.body).getD .skip
noncomputable def r1 := kR (kA d0)
noncomputable def r3 := kR (kA (kB d0))
noncomputable def r6 := kR (kA (kA (kB (kB d0))))
noncomputable def r9 := kR (kA (kA (kB (kA (kB (kB d0))))))
noncomputable def d12 := kB (kB (kB d0))
noncomputable def r13 := kR (kA d12)
noncomputable def r15 := kR (kA (kB d12))
noncomputable def r17 := kR (kA (kB (kB d12)))
noncomputable def r19 := kR (kA (kB (kB (kB d12))))
noncomputable def c0 : Code := .seq (.region 0 r1 false) (.seq (.region 1 r3 false) (.seq (.seq (.region 2 r6 false) (.cond (.tmp 16) (.seq (.region 3 r9 false) .ret) .skip)) (.seq (.region 4 r13 false) (.seq (.region 5 r15 true) (.seq (.region 6 r17 false) (.seq (.region 7 r19 false) .ret))))))
theorem body : Tryz.f355.body = some c0 := by kernel_rfl
section
variable {base : Nat} {W0 : Env} {β0 : Bt}
def f (x0 : Sl) (x1 : Int) (x2 : Int) (S : HS) : Option ((Sl) × HS) :=
 (Option.bind (HS.cut3 S x0 x1 x2 (Sl.len x0 : Int) 3) fun p1 =>
 (if x1 = x2 then
 some (x0,S) else
 (Option.bind (HS.cut S x0 0 x1 3) fun p3 =>
 (Option.bind (HS.cut S x0 x2 (Sl.len x0 : Int) 3) fun p4 =>
 (Option.bind (HS.rows S p4 3) fun p5 =>
 (Option.bind (HS.app S p3 p5 3) fun p6 =>
 (Option.bind (HS.cut (p6.2) (p6.1) (Sl.len (p6.1) : Int) (Sl.len x0 : Int) 3) fun p7 =>
 (Option.bind (HS.over (p6.2) p7 (List.replicate (Sl.len p7) [(.int .i64 0),(.bool false),(.bool false)]) 3) fun p8 =>
 some ((p6.1),p8)))))))))
theorem snd {x0 : Sl} {x1 : Int} {x2 : Int} {S : HS}  {p : (Sl) × HS} (h : f x0 x1 x2 S = some p) : HCall Tryz.prog base W0 β0 355 [(Sl.hv x0),(.int .i64 x1),(.int .i64 x2)] S (fun v S1 => v = (Sl.hv p.1) ∧ S1 = p.2) := by
 unfold f at h
 refine HCall.of_run at_.at_ body ?_
 show HRun Tryz.prog base W0 β0 355 none [.code c0] ⟨[(Sl.hv x0),(.int .i64 x1),(.int .i64 x2),τ,τ,τ,τ,τ,τ,τ,τ,τ,τ,τ,τ,τ,τ,τ,τ,τ,τ,τ,τ,τ,τ,τ,τ,τ,τ,τ,τ,τ,τ],[]⟩ S _
 refine qQ rfl (qR rfl rfl (qS 6 rfl (ok_assign · (.const fun _ => .slNil none)) (rE ?_)))
 try dsimp only [w0,w1,w2,w3]
 refine qQ rfl (qR rfl rfl (qS 8 rfl (oM · rfl) (qS 9 rfl (oM · rfl) (qS 10 rfl (oM · rfl) (qS 11 rfl (oM · rfl) ?_)))))
 try dsimp only [w0,w1,w2,w3]
 obtain ⟨p1,hp1,h⟩ := bindo h
 refine qS 12 rfl (ok_len_sl (q := Sl.a x0) (n := Sl.len x0) (z := Sl.cap x0) · rfl tu84 (.tmp rfl)) (qS 13 rfl (ok_slice3 (kl := .i64) (kh := .i64) (s := x0) (l := x1) (h := x2) · tu84 si44 (.tmp rfl) (.inr ⟨_,rfl,(.tmp rfl)⟩) (.inr ⟨_,rfl,(.tmp rfl)⟩) (.tmp rfl) hp1) (rE ?_))
 try dsimp only [w0,w1,w2,w3]
 refine qQ rfl (qQ rfl (qR rfl rfl (qS 14 rfl (oM · rfl) (qS 15 rfl (oM · rfl) (qS 16 rfl (oB · rfl rfl rfl) (rE ?_))))))
 try dsimp only [w0,w1,w2,w3]
 rcases ifc h with ⟨hc2,h⟩ | ⟨hc2,h⟩
 ·refine q_cond_t rfl (.tmp rfl) (decide_eq_true hc2) (qQ rfl (qR rfl rfl (qS 17 rfl (oM · rfl) (qS 6 rfl (oA · rfl) (rE ?_)))))
  try dsimp only [w0,w1,w2,w3]
  cases h
  exact q_ret rfl at_.at_ rfl (res1 rfl rfl) ⟨rfl,rfl⟩
 ·refine q_cond_f rfl (.tmp rfl) (decide_eq_false hc2) (q_skipc rfl (qQ rfl (qR rfl rfl (qS 18 rfl (oM · rfl) (qS 19 rfl (ok_len_sl (q := Sl.a x0) (n := Sl.len x0) (z := Sl.cap x0) · rfl tu84 (.tmp rfl)) (qS 7 rfl (oA · rfl) (rE ?_)))))))
  try dsimp only [w0,w1,w2,w3]
  refine qQ rfl ?_
  refine x_start (cls := [0,0,1,0,0,1,2,0]) (rk := [0,1,2,3,4,5,6,7]) rfl (by kernel_rfl) ?_
  refine yf 20 [0] rfl (oM · rfl) ?_
  refine yf 21 [1] rfl (oM · rfl) ?_
  obtain ⟨p3,hp3,h⟩ := bindo h
  refine yr 22 [20,21] rfl (ok_slice (kl := .i64) (kh := .i64) (s := x0) (l := 0) (h := x1) · tu84 si44 (.tmp rfl) (.inl ⟨rfl,rfl⟩) (.inr ⟨_,rfl,(.tmp rfl)⟩) hp3) ?_
  refine yf 23 [0] rfl (oM · rfl) ?_
  try dsimp only [w0,w1,w2,w3]
  refine yf 24 [2] rfl (oM · rfl) ?_
  obtain ⟨p4,hp4,h⟩ := bindo h
  refine yr 25 [23,24] rfl (ok_slice (kl := .i64) (kh := .i64) (s := x0) (l := x2) (h := (Sl.len x0 : Int)) · tu84 si44 (.tmp rfl) (.inr ⟨_,rfl,(.tmp rfl)⟩) (.inl ⟨rfl,rfl⟩) hp4) ?_
  obtain ⟨p5,hp5,h⟩ := bindo h
  obtain ⟨p6,hp6,h⟩ := bindo h
  refine ye 26 [22,25] rfl (ok_append (s := p3) (s1 := p4) el84 · rfl rfl ⟨_,tu84⟩ (.tmp rfl) (.tmp rfl) hp5 hp6) ?_
  refine yf 0 [26] rfl (oA · rfl) ?_
  refine x_rest rfl ?_
  refine rE ?_
  try dsimp only [w0,w1,w2,w3]
  refine qQ rfl (qR rfl rfl (qS 27 rfl (oM · rfl) (qS 28 rfl (oM · rfl) (qS 29 rfl (ok_len_sl (q := Sl.a (p6.1)) (n := Sl.len (p6.1)) (z := Sl.cap (p6.1)) · rfl tu84 (.tmp rfl)) (qS 30 rfl (oM · rfl) ?_)))))
  try dsimp only [w0,w1,w2,w3]
  obtain ⟨p7,hp7,h⟩ := bindo h
  obtain ⟨p8,hp8,h⟩ := bindo h
  refine qS 31 rfl (ok_slice (kl := .i64) (kh := .i64) (s := (p6.1)) (l := (Sl.len (p6.1) : Int)) (h := (Sl.len x0 : Int)) · tu84 si44 (.tmp rfl) (.inr ⟨_,rfl,(.tmp rfl)⟩) (.inr ⟨_,rfl,(.tmp rfl)⟩) hp7) (qN rfl (ok_clear (s := p7) el84 · rfl (.tmp rfl) hp8) (rE ?_))
  try dsimp only [w0,w1,w2,w3]
  refine qQ rfl (qR rfl rfl (qS 32 rfl (oM · rfl) (qS 6 rfl (oA · rfl) (rE ?_))))
  try dsimp only [w0,w1,w2,w3]
  cases h
  exact q_ret rfl at_.at_ rfl (res1 rfl rfl) ⟨rfl,rfl⟩
end
end slices_Delete_api_Member_api_Member
namespace slices_Delete_api_Member_api_Member_w
theorem at_ : FnAt Tryz.prog 355 Tryz.f355 := slices_Delete_api_Member_api_Member.at_
theorem body : Tryz.f355.body = some slices_Delete_api_Member_api_Member.c0 := slices_Delete_api_Member_api_Member.body
def f (x0 : Sl) (x1 : Int) (x2 : Int) (S : HS) : Option ((Sl) × HS) := HS.del S x0 x1 x2 3
theorem snd {base : Nat} {W0 : Env} {β0 : Bt} {x0 : Sl} {x1 x2 : Int} {S : HS} {p : (Sl) × HS} (h : f x0 x1 x2 S = some p) : HCall Tryz.prog base W0 β0 355 [(Sl.hv x0),(.int .i64 x1),(.int .i64 x2)] S (fun v S1 => v = (Sl.hv p.1) ∧ S1 = p.2) :=
 del_snd (zr := [(.int .i64 0),(.bool false),(.bool false)]) (fun _ _ _ h => slices_Delete_api_Member_api_Member.snd h) h
end slices_Delete_api_Member_api_Member_w
namespace slices_Reverse_book_entry_int_book_entry_int
theorem at_ : FnAt Tryz.prog 511 Tryz.f511 := ⟨Tryz.func511,by kernel_rfl⟩
noncomputable def d0 := (Tryz.f511.body).getD .skip
noncomputable def r1 := kR (kA d0)
noncomputable def r6 := kR (kA (kA (kA (kA (kB d0)))))
noncomputable def r12 := kR (kA (kA (kB (kA (kA (kB d0))))))
noncomputable def r13 := kR (kB (kB (kA (kA (kB d0)))))
noncomputable def c4 : Code := .seq (.seq (.region 1 r6 false) (.cond (.tmp 9) .skip (.exit 0))) (.seq (.block 1 (.region 3 r12 true)) (.region 2 r13 false))
noncomputable def c0 : Code := .seq (.region 0 r1 false) (.block 0 (.loop c4))
theorem body : Tryz.f511.body = some c0 := by kernel_rfl
section
variable {base : Nat} {W0 : Env} {β0 : Bt}
def L0 (k : Nat) : Nat → Sl → Int → Int → HS → Option ((Unit) × HS)
 | 0,_,_,_,_ => none
 | n + 1,y0,y2,y3,S =>
  (if y2 < y3 then
  (Option.bind (HS.idx S y0 y3 2) fun p2 =>
  (Option.bind (HS.ldS S (HA.fld p2 0)) fun p3 =>
  (Option.bind (HS.ldI S .i64 (HA.fld p2 1)) fun p4 =>
  (Option.bind (HS.idx S y0 y2 2) fun p5 =>
  (Option.bind (HS.ldS S (HA.fld p5 0)) fun p6 =>
  (Option.bind (HS.ldI S .i64 (HA.fld p5 1)) fun p7 =>
  (Option.bind (HS.idx S y0 y2 2) fun p8 =>
  (Option.bind (HS.sets S p8 [(.str p3),(.int .i64 p4)]) fun p9 =>
  (Option.bind (HS.idx p9 y0 y3 2) fun p10 =>
  (Option.bind (HS.sets p9 p10 [(.str p6),(.int .i64 p7)]) fun p11 =>
  (L0 k n) y0 (w64 (y2 + 1)) (w64 (y3 - 1)) p11)))))))))) else
  some ((),S))
theorem L0_snd {k : Nat}  : ∀ {n : Nat} ⦃y0 : Sl⦄ ⦃y2 : Int⦄ ⦃y3 : Int⦄ ⦃S : HS⦄ ⦃p : (Unit) × HS⦄ ⦃Gb Ge Gf Gg Gh Gi Gj Gk Gl Gm Gn Go Gp Gq Gr Gs Gt Gu Gv Gw Gx Gy Gz Ka Kb : HV⦄,L0 k n y0 y2 y3 S = some p → HRun Tryz.prog base W0 β0 511 none [.inLoop c4,.inBlock 0] ⟨[(Sl.hv y0),Gb,(.int .i64 y2),(.int .i64 y3),Ge,Gf,Gg,Gh,Gi,Gj,Gk,Gl,Gm,Gn,Go,Gp,Gq,Gr,Gs,Gt,Gu,Gv,Gw,Gx,Gy,Gz,Ka,Kb],[]⟩ S (fun v S1 => v = (.tup []) ∧ S1 = p.2) := by
 intro n
 induction n with
 | zero => intro _ _ _ _ _ _ _ _ _ _ _ _ _ _ _ _ _ _ _ _ _ _ _ _ _ _ _ _ _ _ h; cases h
 | succ n ih =>
  intro y0 y2 y3 S p Gb Ge Gf Gg Gh Gi Gj Gk Gl Gm Gn Go Gp Gq Gr Gs Gt Gu Gv Gw Gx Gy Gz Ka Kb h
  simp only [L0] at h
  refine hr_inLoop (qQ rfl (qQ rfl (qR rfl rfl (qS 7 rfl (oM · rfl) (qS 8 rfl (oM · rfl) (qS 9 rfl (oB · rfl rfl rfl) (rE ?_)))))))
  try dsimp only [w0,w1,w2,w3]
  rcases ifc h with ⟨hc1,h⟩ | ⟨hc1,h⟩
  ·refine q_cond_t rfl (.tmp rfl) (decide_eq_true hc1) (q_skipc rfl (qQ rfl (q_block rfl ?_)))
   refine x_start (cls := [0,0,0,0,0,0,1,1,0,0,1,1,1,2,1,2]) (rk := [0,1,12,13,2,3,4,5,6,7,8,9,10,11,14,15]) rfl (by kernel_rfl) ?_
   refine yf 14 [0] rfl (oM · rfl) ?_
   refine yf 15 [2] rfl (oM · rfl) ?_
   refine yf 16 [0] rfl (oM · rfl) ?_
   refine yf 17 [3] rfl (oM · rfl) ?_
   try dsimp only [w0,w1,w2,w3]
   refine yf 18 [0] rfl (oM · rfl) ?_
   refine yf 19 [3] rfl (oM · rfl) ?_
   obtain ⟨p2,hp2,h⟩ := bindo h
   refine yr 20 [18,19] rfl (oX (s := y0) · tu128 sz127 rfl rfl hp2) ?_
   obtain ⟨p3,hp3,h⟩ := bindo h
   obtain ⟨p4,hp4,h⟩ := bindo h
   refine yr 21 [20] rfl (ok_load_a (vs := [(.str p3),(.int .i64 p4)]) · ia127 (.tmp rfl) rfl ⟨ldS_out hp3,ldI_out hp4,trivial⟩ (by simp)) ?_
   try dsimp only [w0,w1,w2,w3]
   refine yf 22 [0] rfl (oM · rfl) ?_
   refine yf 23 [2] rfl (oM · rfl) ?_
   obtain ⟨p5,hp5,h⟩ := bindo h
   refine yr 24 [22,23] rfl (oX (s := y0) · tu128 sz127 rfl rfl hp5) ?_
   obtain ⟨p6,hp6,h⟩ := bindo h
   obtain ⟨p7,hp7,h⟩ := bindo h
   refine yr 25 [24] rfl (ok_load_a (vs := [(.str p6),(.int .i64 p7)]) · ia127 (.tmp rfl) rfl ⟨ldS_out hp6,ldI_out hp7,trivial⟩ (by simp)) ?_
   try dsimp only [w0,w1,w2,w3]
   obtain ⟨p8,hp8,h⟩ := bindo h
   refine yr 26 [14,15] rfl (oX (s := y0) · tu128 sz127 rfl rfl hp8) ?_
   obtain ⟨p9,hp9,h⟩ := bindo h
   refine x_go (e_op (dst := none) (ts := [26,21]) rfl (by intro _ _ h; cases h) (by kernel_rfl) (fun _ ho => ok_store_s (v := (.agg [(.str p3),(.int .i64 p4)])) ho sz127 (.tmp rfl) rfl (.tmp rfl) rfl hp9)) rfl ?_
   obtain ⟨p10,hp10,h⟩ := bindo h
   refine yr 27 [16,17] rfl (oX (s := y0) · tu128 sz127 rfl rfl hp10) ?_
   obtain ⟨p11,hp11,h⟩ := bindo h
   refine x_go (e_op (dst := none) (ts := [27,25]) rfl (by intro _ _ h; cases h) (by kernel_rfl) (fun _ ho => ok_store_s (v := (.agg [(.str p6),(.int .i64 p7)])) ho sz127 (.tmp rfl) rfl (.tmp rfl) rfl hp11)) rfl ?_
   refine x_rest rfl ?_
   refine rE ?_
   try dsimp only [w0,w1,w2,w3]
   refine hr_inBlock (qR rfl rfl (qS 10 rfl (oM · rfl) (qS 11 rfl (oC · rfl rfl) (qS 12 rfl (oM · rfl) (qS 13 rfl (oC · rfl rfl) ?_)))))
   try dsimp only [w0,w1,w2,w3]
   refine qS 2 rfl (oA · rfl) (qS 3 rfl (oA · rfl) (rE ?_))
   try dsimp only [w0,w1,w2,w3]
   try dsimp only [w0,w1,w2,w3]
   exact ih h
  ·cases h
   exact q_cond_f rfl (.tmp rfl) (decide_eq_false hc1) (q_exit rfl rfl (q_end at_.at_ rfl (res0 rfl) ⟨rfl,rfl⟩))
def f (k : Nat) (x0 : Sl) (S : HS) : Option ((Unit) × HS) :=
 L0 k k x0 0 (w64 ((Sl.len x0 : Int) - 1)) S
theorem snd {k : Nat} {x0 : Sl} {S : HS}  {p : (Unit) × HS} (h : f k x0 S = some p) : HCall Tryz.prog base W0 β0 511 [(Sl.hv x0)] S (fun v S1 => v = (.tup []) ∧ S1 = p.2) := by
 unfold f at h
 refine HCall.of_run at_.at_ body ?_
 show HRun Tryz.prog base W0 β0 511 none [.code c0] ⟨[(Sl.hv x0),τ,τ,τ,τ,τ,τ,τ,τ,τ,τ,τ,τ,τ,τ,τ,τ,τ,τ,τ,τ,τ,τ,τ,τ,τ,τ,τ],[]⟩ S _
 refine qQ rfl (qR rfl rfl (qS 4 rfl (oM · rfl) (qS 5 rfl (ok_len_sl (q := Sl.a x0) (n := Sl.len x0) (z := Sl.cap x0) · rfl tu128 (.tmp rfl)) (qS 6 rfl (oC · rfl rfl) (qS 2 rfl (ok_assign · (.int _ _)) ?_)))))
 try dsimp only [w0,w1,w2,w3]
 refine qS 3 rfl (oA · rfl) (rE ?_)
 try dsimp only [w0,w1,w2,w3]
 refine q_block rfl (q_loop rfl ?_)
 try dsimp only [w0,w1,w2,w3]
 exact L0_snd  h
end
end slices_Reverse_book_entry_int_book_entry_int
namespace slices_rotateLeft_book_entry_int
theorem at_ : FnAt Tryz.prog 501 Tryz.f501 := ⟨Tryz.func501,by kernel_rfl⟩
noncomputable def d0 := (Tryz.f501.body).getD .skip
noncomputable def r1 := kR (kA d0)
noncomputable def r3 := kR (kA (kB d0))
noncomputable def r4 := kR (kB (kB d0))
noncomputable def c0 : Code := .seq (.region 0 r1 false) (.seq (.region 1 r3 false) (.region 2 r4 false))
theorem body : Tryz.f501.body = some c0 := by kernel_rfl
section
variable {base : Nat} {W0 : Env} {β0 : Bt}
def f (k : Nat) (x0 : Sl) (x1 : Int) (S : HS) : Option ((Unit) × HS) :=
 (Option.bind (HS.cut S x0 0 x1 2) fun p1 =>
 (Option.bind (slices_Reverse_book_entry_int_book_entry_int.f k p1 S) fun p2 =>
 (Option.bind (HS.cut p2.2 x0 x1 (Sl.len x0 : Int) 2) fun p3 =>
 (Option.bind (slices_Reverse_book_entry_int_book_entry_int.f k p3 p2.2) fun p4 =>
 (Option.bind (slices_Reverse_book_entry_int_book_entry_int.f k x0 p4.2) fun p5 =>
 some ((),p5.2))))))
theorem snd {k : Nat} {x0 : Sl} {x1 : Int} {S : HS}  {p : (Unit) × HS} (h : f k x0 x1 S = some p) : HCall Tryz.prog base W0 β0 501 [(Sl.hv x0),(.int .i64 x1)] S (fun v S1 => v = (.tup []) ∧ S1 = p.2) := by
 unfold f at h
 refine HCall.of_run at_.at_ body ?_
 show HRun Tryz.prog base W0 β0 501 none [.code c0] ⟨[(Sl.hv x0),(.int .i64 x1),τ,τ,τ,τ,τ,τ,τ,τ,τ,τ,τ,τ],[]⟩ S _
 obtain ⟨p1,hp1,h⟩ := bindo h
 obtain ⟨p2,hp2,h⟩ := bindo h
 refine qQ rfl (qR rfl rfl (qS 4 rfl (oM · rfl) (qS 5 rfl (oM · rfl) (qS 6 rfl (ok_slice (kl := .i64) (kh := .i64) (s := x0) (l := 0) (h := x1) · tu128 si127 (.tmp rfl) (.inl ⟨rfl,rfl⟩) (.inr ⟨_,rfl,(.tmp rfl)⟩) hp1) (q_call (dst := some 7) rfl (.func _) (.cons (.tmp rfl) Evs.nil) (HInv.static slices_Reverse_book_entry_int_book_entry_int.at_ slices_Reverse_book_entry_int_book_entry_int.body (slices_Reverse_book_entry_int_book_entry_int.snd  hp2)) ?_)))))
 rintro _ _ ⟨rfl,rfl⟩
 refine rE ?_
 try dsimp only [w0,w1,w2,w3]
 obtain ⟨p3,hp3,h⟩ := bindo h
 obtain ⟨p4,hp4,h⟩ := bindo h
 refine qQ rfl (qR rfl rfl (qS 8 rfl (oM · rfl) (qS 9 rfl (oM · rfl) (qS 10 rfl (ok_slice (kl := .i64) (kh := .i64) (s := x0) (l := x1) (h := (Sl.len x0 : Int)) · tu128 si127 (.tmp rfl) (.inr ⟨_,rfl,(.tmp rfl)⟩) (.inl ⟨rfl,rfl⟩) hp3) (q_call (dst := some 11) rfl (.func _) (.cons (.tmp rfl) Evs.nil) (HInv.static slices_Reverse_book_entry_int_book_entry_int.at_ slices_Reverse_book_entry_int_book_entry_int.body (slices_Reverse_book_entry_int_book_entry_int.snd  hp4)) ?_)))))
 rintro _ _ ⟨rfl,rfl⟩
 refine rE ?_
 try dsimp only [w0,w1,w2,w3]
 obtain ⟨p5,hp5,h⟩ := bindo h
 refine qR rfl rfl (qS 12 rfl (oM · rfl) (q_call (dst := some 13) rfl (.func _) (.cons (.tmp rfl) Evs.nil) (HInv.static slices_Reverse_book_entry_int_book_entry_int.at_ slices_Reverse_book_entry_int_book_entry_int.body (slices_Reverse_book_entry_int_book_entry_int.snd  hp5)) ?_))
 rintro _ _ ⟨rfl,rfl⟩
 refine rE ?_
 try dsimp only [w0,w1,w2,w3]
 cases h
 exact q_end at_.at_ rfl (res0 rfl) ⟨rfl,rfl⟩
end
end slices_rotateLeft_book_entry_int
namespace slices_rotateRight_book_entry_int
theorem at_ : FnAt Tryz.prog 480 Tryz.f480 := ⟨Tryz.func480,by kernel_rfl⟩
noncomputable def d0 := (Tryz.f480.body).getD .skip
noncomputable def r0 := kR d0
noncomputable def c0 : Code := .region 0 r0 false
theorem body : Tryz.f480.body = some c0 := by kernel_rfl
section
variable {base : Nat} {W0 : Env} {β0 : Bt}
def f (k : Nat) (x0 : Sl) (x1 : Int) (S : HS) : Option ((Unit) × HS) :=
 (Option.bind (slices_rotateLeft_book_entry_int.f k x0 (w64 ((Sl.len x0 : Int) - x1)) S) fun p1 =>
 some ((),p1.2))
theorem snd {k : Nat} {x0 : Sl} {x1 : Int} {S : HS}  {p : (Unit) × HS} (h : f k x0 x1 S = some p) : HCall Tryz.prog base W0 β0 480 [(Sl.hv x0),(.int .i64 x1)] S (fun v S1 => v = (.tup []) ∧ S1 = p.2) := by
 unfold f at h
 refine HCall.of_run at_.at_ body ?_
 show HRun Tryz.prog base W0 β0 480 none [.code c0] ⟨[(Sl.hv x0),(.int .i64 x1),τ,τ,τ,τ,τ,τ,τ,τ],[]⟩ S _
 refine qR rfl rfl (qS 4 rfl (oM · rfl) (qS 5 rfl (oM · rfl) (qS 6 rfl (ok_len_sl (q := Sl.a x0) (n := Sl.len x0) (z := Sl.cap x0) · rfl tu128 (.tmp rfl)) (qS 7 rfl (oM · rfl) ?_))))
 try dsimp only [w0,w1,w2,w3]
 obtain ⟨p1,hp1,h⟩ := bindo h
 refine qS 8 rfl (oB · rfl rfl rfl) (q_call (dst := some 9) rfl (.func _) (.cons (.tmp rfl) (.cons (.tmp rfl) Evs.nil)) (HInv.static slices_rotateLeft_book_entry_int.at_ slices_rotateLeft_book_entry_int.body (slices_rotateLeft_book_entry_int.snd  hp1)) ?_)
 rintro _ _ ⟨rfl,rfl⟩
 refine rE ?_
 try dsimp only [w0,w1,w2,w3]
 cases h
 exact q_end at_.at_ rfl (res0 rfl) ⟨rfl,rfl⟩
end
end slices_rotateRight_book_entry_int
namespace slices_Insert_book_entry_int_book_entry_int
theorem at_ : FnAt Tryz.prog 446 Tryz.f446 := ⟨Tryz.func446,by kernel_rfl⟩
noncomputable def d0 := (Tryz.f446.body).getD .skip
noncomputable def r1 := kR (kA d0)
noncomputable def r3 := kR (kA (kB d0))
noncomputable def r5 := kR (kA (kB (kB d0)))
noncomputable def d6 := kB (kB (kB d0))
noncomputable def r8 := kR (kA (kA d6))
noncomputable def r11 := kR (kA (kA (kB (kA d6))))
noncomputable def r15 := kR (kA (kB d6))
noncomputable def r18 := kR (kA (kA (kB (kB d6))))
noncomputable def r21 := kR (kA (kA (kB (kA (kB (kB d6))))))
noncomputable def d24 := kB (kB (kB d6))
noncomputable def r26 := kR (kA (kA d24))
noncomputable def d28 := kA (kB (kA d24))
noncomputable def r29 := kR (kA d28)
noncomputable def r31 := kR (kA (kB d28))
noncomputable def r33 := kR (kA (kB (kB d28)))
noncomputable def r35 := kR (kA (kB (kB (kB d28))))
noncomputable def r39 := kR (kA (kB d24))
noncomputable def d41 := kA (kB (kB d24))
noncomputable def r42 := kR (kA d41)
noncomputable def r45 := kR (kA (kA (kB d41)))
noncomputable def r47 := kR (kA (kB (kA (kB d41))))
noncomputable def r49 := kR (kA (kB (kB (kA (kB d41)))))
noncomputable def r53 := kR (kA (kB (kB (kB d24))))
noncomputable def r55 := kR (kA (kB (kB (kB (kB d24)))))
noncomputable def r57 := kR (kA (kB (kB (kB (kB (kB d24))))))
noncomputable def c0 : Code := .seq (.region 0 r1 false) (.seq (.region 1 r3 false) (.seq (.region 2 r5 false) (.seq (.seq (.region 3 r8 false) (.cond (.tmp 16) (.seq (.region 4 r11 false) .ret) .skip)) (.seq (.region 5 r15 false) (.seq (.seq (.region 6 r18 false) (.cond (.tmp 22) (.seq (.region 7 r21 false) .ret) .skip)) (.seq (.seq (.region 8 r26 false) (.cond (.tmp 31) (.seq (.region 9 r29 false) (.seq (.region 10 r31 false) (.seq (.region 11 r33 true) (.seq (.region 12 r35 false) .ret)))) .skip)) (.seq (.region 13 r39 false) (.seq (.seq (.region 14 r42 false) (.cond (.tmp 68) (.seq (.region 15 r45 true) (.seq (.region 16 r47 false) (.seq (.region 17 r49 false) .ret))) .skip)) (.seq (.region 18 r53 false) (.seq (.region 19 r55 false) (.seq (.region 20 r57 false) .ret)))))))))))
theorem body : Tryz.f446.body = some c0 := by kernel_rfl
section
variable {base : Nat} {W0 : Env} {β0 : Bt}
def f (k : Nat) (x0 : Sl) (x1 : Int) (x2 : Sl) (S : HS) : Option ((Sl) × HS) :=
 (Option.bind (HS.cut S x0 x1 (Sl.len x0 : Int) 2) fun p1 =>
 (if (Sl.len x2 : Int) = 0 then
 some (x0,S) else
 (if x1 = (Sl.len x0 : Int) then
 (Option.bind (HS.rows S x2 2) fun p4 =>
 (Option.bind (HS.app S x0 p4 2) fun p5 =>
 some ((p5.1),(p5.2)))) else
 (Option.bind (Sl.capOf x0) fun p6 =>
 (if (w64 ((Sl.len x0 : Int) + (Sl.len x2 : Int))) > p6 then
 (Option.bind (HS.cut S x0 0 x1 2) fun p8 =>
 (Option.bind (HS.appZ S p8 (w64 ((w64 ((Sl.len x0 : Int) + (Sl.len x2 : Int))) - x1)) [(.str []),(.int .i64 0)] 2) fun p9 =>
 (Option.bind (HS.cut (p9.2) (p9.1) x1 (Sl.len (p9.1) : Int) 2) fun p10 =>
 (Option.bind (HS.rows (p9.2) x2 2) fun p11 =>
 (Option.bind (HS.over (p9.2) p10 (List.take (Sl.len p10) p11) 2) fun p12 =>
 (Option.bind (HS.cut p12 (p9.1) (w64 (x1 + (Sl.len x2 : Int))) (Sl.len (p9.1) : Int) 2) fun p13 =>
 (Option.bind (HS.cut p12 x0 x1 (Sl.len x0 : Int) 2) fun p14 =>
 (Option.bind (HS.rows p12 p14 2) fun p15 =>
 (Option.bind (HS.over p12 p13 (List.take (Sl.len p13) p15) 2) fun p16 =>
 some ((p9.1),p16)))))))))) else
 (Option.bind (HS.cut S x0 0 (w64 ((Sl.len x0 : Int) + (Sl.len x2 : Int))) 2) fun p17 =>
 (Option.bind (HS.cut S p17 (w64 (x1 + (Sl.len x2 : Int))) (Sl.len p17 : Int) 2) fun p18 =>
 (Option.bind (HS.ovl S x2 p18) fun p19 =>
 (if (!p19) = true then
 (Option.bind (HS.cut S p17 (w64 (x1 + (Sl.len x2 : Int))) (Sl.len p17 : Int) 2) fun p21 =>
 (Option.bind (HS.cut S p17 x1 (Sl.len p17 : Int) 2) fun p22 =>
 (Option.bind (HS.rows S p22 2) fun p23 =>
 (Option.bind (HS.over S p21 (List.take (Sl.len p21) p23) 2) fun p24 =>
 (Option.bind (HS.cut p24 p17 x1 (Sl.len p17 : Int) 2) fun p25 =>
 (Option.bind (HS.rows p24 x2 2) fun p26 =>
 (Option.bind (HS.over p24 p25 (List.take (Sl.len p25) p26) 2) fun p27 =>
 some (p17,p27)))))))) else
 (Option.bind (HS.cut S p17 (Sl.len x0 : Int) (Sl.len p17 : Int) 2) fun p28 =>
 (Option.bind (HS.rows S x2 2) fun p29 =>
 (Option.bind (HS.over S p28 (List.take (Sl.len p28) p29) 2) fun p30 =>
 (Option.bind (HS.cut p30 p17 x1 (Sl.len p17 : Int) 2) fun p31 =>
 (Option.bind (slices_rotateRight_book_entry_int.f k p31 (Sl.len x2 : Int) p30) fun p32 =>
 some (p17,p32.2)))))))))))))))
theorem snd {k : Nat} {x0 : Sl} {x1 : Int} {x2 : Sl} {S : HS}  {p : (Sl) × HS} (h : f k x0 x1 x2 S = some p) : HCall Tryz.prog base W0 β0 446 [(Sl.hv x0),(.int .i64 x1),(Sl.hv x2)] S (fun v S1 => v = (Sl.hv p.1) ∧ S1 = p.2) := by
 unfold f at h
 refine HCall.of_run at_.at_ body ?_
 show HRun Tryz.prog base W0 β0 446 none [.code c0] ⟨[(Sl.hv x0),(.int .i64 x1),(Sl.hv x2),τ,τ,τ,τ,τ,τ,τ,τ,τ,τ,τ,τ,τ,τ,τ,τ,τ,τ,τ,τ,τ,τ,τ,τ,τ,τ,τ,τ,τ,τ,τ,τ,τ,τ,τ,τ,τ,τ,τ,τ,τ,τ,τ,τ,τ,τ,τ,τ,τ,τ,τ,τ,τ,τ,τ,τ,τ,τ,τ,τ,τ,τ,τ,τ,τ,τ,τ,τ,τ,τ,τ,τ,τ,τ,τ,τ,τ,τ,τ,τ,τ,τ,τ,τ,τ,τ,τ,τ,τ,τ,τ,τ],[]⟩ S _
 refine qQ rfl (qR rfl rfl (qS 6 rfl (ok_assign · (.const fun _ => .slNil none)) (rE ?_)))
 try dsimp only [w0,w1,w2,w3]
 obtain ⟨p1,hp1,h⟩ := bindo h
 refine qQ rfl (qR rfl rfl (qS 10 rfl (oM · rfl) (qS 11 rfl (oM · rfl) (qS 12 rfl (ok_slice (kl := .i64) (kh := .i64) (s := x0) (l := x1) (h := (Sl.len x0 : Int)) · tu128 si127 (.tmp rfl) (.inr ⟨_,rfl,(.tmp rfl)⟩) (.inl ⟨rfl,rfl⟩) hp1) (rE ?_)))))
 try dsimp only [w0,w1,w2,w3]
 refine qQ rfl (qR rfl rfl (qS 13 rfl (oM · rfl) (qS 14 rfl (ok_len_sl (q := Sl.a x2) (n := Sl.len x2) (z := Sl.cap x2) · rfl tu128 (.tmp rfl)) (qS 7 rfl (oA · rfl) (rE ?_)))))
 try dsimp only [w0,w1,w2,w3]
 refine qQ rfl (qQ rfl (qR rfl rfl (qS 15 rfl (oM · rfl) (qS 16 rfl (oC · rfl rfl) (rE ?_)))))
 try dsimp only [w0,w1,w2,w3]
 rcases ifc h with ⟨hc2,h⟩ | ⟨hc2,h⟩
 ·refine q_cond_t rfl (.tmp rfl) (decide_eq_true hc2) (qQ rfl (qR rfl rfl (qS 17 rfl (oM · rfl) (qS 6 rfl (oA · rfl) (rE ?_)))))
  try dsimp only [w0,w1,w2,w3]
  cases h
  exact q_ret rfl at_.at_ rfl (res1 rfl rfl) ⟨rfl,rfl⟩
 ·refine q_cond_f rfl (.tmp rfl) (decide_eq_false hc2) (q_skipc rfl (qQ rfl (qR rfl rfl (qS 18 rfl (oM · rfl) (qS 19 rfl (ok_len_sl (q := Sl.a x0) (n := Sl.len x0) (z := Sl.cap x0) · rfl tu128 (.tmp rfl)) (qS 8 rfl (oA · rfl) (rE ?_)))))))
  try dsimp only [w0,w1,w2,w3]
  refine qQ rfl (qQ rfl (qR rfl rfl (qS 20 rfl (oM · rfl) (qS 21 rfl (oM · rfl) (qS 22 rfl (oB · rfl rfl rfl) (rE ?_))))))
  try dsimp only [w0,w1,w2,w3]
  rcases ifc h with ⟨hc3,h⟩ | ⟨hc3,h⟩
  ·obtain ⟨p4,hp4,h⟩ := bindo h
   obtain ⟨p5,hp5,h⟩ := bindo h
   refine q_cond_t rfl (.tmp rfl) (decide_eq_true hc3) (qQ rfl (qR rfl rfl (qS 23 rfl (oM · rfl) (qS 24 rfl (oM · rfl) (qS 25 rfl (ok_append (s := x0) (s1 := x2) el128 · rfl rfl ⟨_,tu128⟩ (.tmp rfl) (.tmp rfl) hp4 hp5) (qS 6 rfl (oA · rfl) (rE ?_)))))))
   try dsimp only [w0,w1,w2,w3]
   cases h
   exact q_ret rfl at_.at_ rfl (res1 rfl rfl) ⟨rfl,rfl⟩
  ·refine q_cond_f rfl (.tmp rfl) (decide_eq_false hc3) (q_skipc rfl (qQ rfl (qQ rfl (qR rfl rfl (qS 26 rfl (oM · rfl) (qS 27 rfl (oM · rfl) (qS 28 rfl (oB · rfl rfl rfl) (qS 29 rfl (oM · rfl) ?_))))))))
   try dsimp only [w0,w1,w2,w3]
   obtain ⟨p6,hp6,h⟩ := bindo h
   refine qS 30 rfl (ok_cap (s := x0) · rfl tu128 (.tmp rfl) hp6) (qS 31 rfl (oB · rfl rfl rfl) (rE ?_))
   try dsimp only [w0,w1,w2,w3]
   rcases ifc h with ⟨hc7,h⟩ | ⟨hc7,h⟩
   ·obtain ⟨p8,hp8,h⟩ := bindo h
    refine q_cond_t rfl (.tmp rfl) (decide_eq_true hc7) (qQ rfl (qR rfl rfl (qS 32 rfl (oM · rfl) (qS 33 rfl (oM · rfl) (qS 34 rfl (ok_slice (kl := .i64) (kh := .i64) (s := x0) (l := 0) (h := x1) · tu128 si127 (.tmp rfl) (.inl ⟨rfl,rfl⟩) (.inr ⟨_,rfl,(.tmp rfl)⟩) hp8) (qS 35 rfl (oM · rfl) ?_))))))
    try dsimp only [w0,w1,w2,w3]
    refine qS 36 rfl (oM · rfl) (qS 37 rfl (oB · rfl rfl rfl) (qS 38 rfl (oM · rfl) (qS 39 rfl (oB · rfl rfl rfl) ?_)))
    try dsimp only [w0,w1,w2,w3]
    obtain ⟨p9,hp9,h⟩ := bindo h
    refine qS 40 rfl (ok_append_zeros (s := p8) el128 · rfl rfl tu3 (.tmp rfl) (.tmp rfl) hp9) (qS 9 rfl (oA · rfl) (rE ?_))
    try dsimp only [w0,w1,w2,w3]
    obtain ⟨p10,hp10,h⟩ := bindo h
    refine qQ rfl (qR rfl rfl (qS 41 rfl (oM · rfl) (qS 42 rfl (oM · rfl) (qS 43 rfl (ok_slice (kl := .i64) (kh := .i64) (s := (p9.1)) (l := x1) (h := (Sl.len (p9.1) : Int)) · tu128 si127 (.tmp rfl) (.inr ⟨_,rfl,(.tmp rfl)⟩) (.inl ⟨rfl,rfl⟩) hp10) (qS 44 rfl (oM · rfl) ?_)))))
    try dsimp only [w0,w1,w2,w3]
    obtain ⟨p11,hp11,h⟩ := bindo h
    obtain ⟨p12,hp12,h⟩ := bindo h
    refine qS 45 rfl (ok_copy (s := p10) (s1 := x2) el128 · rfl (.tmp rfl) (.tmp rfl) hp11 hp12) (rE ?_)
    try dsimp only [w0,w1,w2,w3]
    refine qQ rfl ?_
    refine x_start (cls := [0,0,0,0,1,0,0,1,2]) (rk := [0,1,2,3,4,5,6,7,8]) rfl (by kernel_rfl) ?_
    refine yf 46 [9] rfl (oM · rfl) ?_
    refine yf 47 [1] rfl (oM · rfl) ?_
    refine yf 48 [7] rfl (oM · rfl) ?_
    refine yf 49 [47,48] rfl (oB · rfl rfl rfl) ?_
    try dsimp only [w0,w1,w2,w3]
    obtain ⟨p13,hp13,h⟩ := bindo h
    refine yr 50 [46,49] rfl (ok_slice (kl := .i64) (kh := .i64) (s := (p9.1)) (l := (w64 (x1 + (Sl.len x2 : Int)))) (h := (Sl.len (p9.1) : Int)) · tu128 si127 (.tmp rfl) (.inr ⟨_,rfl,(.tmp rfl)⟩) (.inl ⟨rfl,rfl⟩) hp13) ?_
    refine yf 51 [0] rfl (oM · rfl) ?_
    refine yf 52 [1] rfl (oM · rfl) ?_
    obtain ⟨p14,hp14,h⟩ := bindo h
    refine yr 53 [51,52] rfl (ok_slice (kl := .i64) (kh := .i64) (s := x0) (l := x1) (h := (Sl.len x0 : Int)) · tu128 si127 (.tmp rfl) (.inr ⟨_,rfl,(.tmp rfl)⟩) (.inl ⟨rfl,rfl⟩) hp14) ?_
    try dsimp only [w0,w1,w2,w3]
    obtain ⟨p15,hp15,h⟩ := bindo h
    obtain ⟨p16,hp16,h⟩ := bindo h
    refine ye 54 [50,53] rfl (ok_copy (s := p13) (s1 := p14) el128 · rfl (.tmp rfl) (.tmp rfl) hp15 hp16) ?_
    refine x_rest rfl ?_
    refine rE ?_
    try dsimp only [w0,w1,w2,w3]
    refine qQ rfl (qR rfl rfl (qS 55 rfl (oM · rfl) (qS 6 rfl (oA · rfl) (rE ?_))))
    try dsimp only [w0,w1,w2,w3]
    cases h
    exact q_ret rfl at_.at_ rfl (res1 rfl rfl) ⟨rfl,rfl⟩
   ·refine q_cond_f rfl (.tmp rfl) (decide_eq_false hc7) (q_skipc rfl (qQ rfl (qR rfl rfl (qS 56 rfl (oM · rfl) (qS 57 rfl (oM · rfl) (qS 58 rfl (oM · rfl) (qS 59 rfl (oB · rfl rfl rfl) ?_)))))))
    try dsimp only [w0,w1,w2,w3]
    obtain ⟨p17,hp17,h⟩ := bindo h
    refine qS 60 rfl (ok_slice (kl := .i64) (kh := .i64) (s := x0) (l := 0) (h := (w64 ((Sl.len x0 : Int) + (Sl.len x2 : Int)))) · tu128 si127 (.tmp rfl) (.inl ⟨rfl,rfl⟩) (.inr ⟨_,rfl,(.tmp rfl)⟩) hp17) (qS 0 rfl (oA · rfl) (rE ?_))
    try dsimp only [w0,w1,w2,w3]
    refine qQ rfl (qQ rfl (qR rfl rfl (qS 61 rfl (oM · rfl) (qS 62 rfl (oM · rfl) (qS 63 rfl (oM · rfl) (qS 64 rfl (oM · rfl) ?_))))))
    try dsimp only [w0,w1,w2,w3]
    obtain ⟨p18,hp18,h⟩ := bindo h
    obtain ⟨p19,hp19,h⟩ := bindo h
    refine qS 65 rfl (oB · rfl rfl rfl) (qS 66 rfl (ok_slice (kl := .i64) (kh := .i64) (s := p17) (l := (w64 (x1 + (Sl.len x2 : Int)))) (h := (Sl.len p17 : Int)) · tu128 si127 (.tmp rfl) (.inr ⟨_,rfl,(.tmp rfl)⟩) (.inl ⟨rfl,rfl⟩) hp18) (qS 67 rfl (ok_overlaps (s1 := x2) (s2 := p18) · ext479 tu128 si127 (.tmp rfl) (.tmp rfl) hp19) (qS 68 rfl (ok_not · (.tmp rfl)) (rE ?_))))
    try dsimp only [w0,w1,w2,w3]
    rcases ifc h with ⟨hc20,h⟩ | ⟨hc20,h⟩
    ·refine q_cond_t rfl (.tmp rfl) hc20 (qQ rfl ?_)
     refine x_start (cls := [0,0,0,0,1,0,0,1,2]) (rk := [0,1,2,3,4,5,6,7,8]) rfl (by kernel_rfl) ?_
     refine yf 69 [0] rfl (oM · rfl) ?_
     refine yf 70 [1] rfl (oM · rfl) ?_
     refine yf 71 [7] rfl (oM · rfl) ?_
     refine yf 72 [70,71] rfl (oB · rfl rfl rfl) ?_
     try dsimp only [w0,w1,w2,w3]
     obtain ⟨p21,hp21,h⟩ := bindo h
     refine yr 73 [69,72] rfl (ok_slice (kl := .i64) (kh := .i64) (s := p17) (l := (w64 (x1 + (Sl.len x2 : Int)))) (h := (Sl.len p17 : Int)) · tu128 si127 (.tmp rfl) (.inr ⟨_,rfl,(.tmp rfl)⟩) (.inl ⟨rfl,rfl⟩) hp21) ?_
     refine yf 74 [0] rfl (oM · rfl) ?_
     refine yf 75 [1] rfl (oM · rfl) ?_
     obtain ⟨p22,hp22,h⟩ := bindo h
     refine yr 76 [74,75] rfl (ok_slice (kl := .i64) (kh := .i64) (s := p17) (l := x1) (h := (Sl.len p17 : Int)) · tu128 si127 (.tmp rfl) (.inr ⟨_,rfl,(.tmp rfl)⟩) (.inl ⟨rfl,rfl⟩) hp22) ?_
     try dsimp only [w0,w1,w2,w3]
     obtain ⟨p23,hp23,h⟩ := bindo h
     obtain ⟨p24,hp24,h⟩ := bindo h
     refine ye 77 [73,76] rfl (ok_copy (s := p21) (s1 := p22) el128 · rfl (.tmp rfl) (.tmp rfl) hp23 hp24) ?_
     refine x_rest rfl ?_
     refine rE ?_
     try dsimp only [w0,w1,w2,w3]
     obtain ⟨p25,hp25,h⟩ := bindo h
     refine qQ rfl (qR rfl rfl (qS 78 rfl (oM · rfl) (qS 79 rfl (oM · rfl) (qS 80 rfl (ok_slice (kl := .i64) (kh := .i64) (s := p17) (l := x1) (h := (Sl.len p17 : Int)) · tu128 si127 (.tmp rfl) (.inr ⟨_,rfl,(.tmp rfl)⟩) (.inl ⟨rfl,rfl⟩) hp25) (qS 81 rfl (oM · rfl) ?_)))))
     try dsimp only [w0,w1,w2,w3]
     obtain ⟨p26,hp26,h⟩ := bindo h
     obtain ⟨p27,hp27,h⟩ := bindo h
     refine qS 82 rfl (ok_copy (s := p25) (s1 := x2) el128 · rfl (.tmp rfl) (.tmp rfl) hp26 hp27) (rE ?_)
     try dsimp only [w0,w1,w2,w3]
     refine qQ rfl (qR rfl rfl (qS 83 rfl (oM · rfl) (qS 6 rfl (oA · rfl) (rE ?_))))
     try dsimp only [w0,w1,w2,w3]
     cases h
     exact q_ret rfl at_.at_ rfl (res1 rfl rfl) ⟨rfl,rfl⟩
    ·obtain ⟨p28,hp28,h⟩ := bindo h
     refine q_cond_f rfl (.tmp rfl) (bfalse hc20) (q_skipc rfl (qQ rfl (qR rfl rfl (qS 84 rfl (oM · rfl) (qS 85 rfl (oM · rfl) (qS 86 rfl (ok_slice (kl := .i64) (kh := .i64) (s := p17) (l := (Sl.len x0 : Int)) (h := (Sl.len p17 : Int)) · tu128 si127 (.tmp rfl) (.inr ⟨_,rfl,(.tmp rfl)⟩) (.inl ⟨rfl,rfl⟩) hp28) (qS 87 rfl (oM · rfl) ?_)))))))
     try dsimp only [w0,w1,w2,w3]
     obtain ⟨p29,hp29,h⟩ := bindo h
     obtain ⟨p30,hp30,h⟩ := bindo h
     refine qS 88 rfl (ok_copy (s := p28) (s1 := x2) el128 · rfl (.tmp rfl) (.tmp rfl) hp29 hp30) (rE ?_)
     try dsimp only [w0,w1,w2,w3]
     obtain ⟨p31,hp31,h⟩ := bindo h
     refine qQ rfl (qR rfl rfl (qS 89 rfl (oM · rfl) (qS 90 rfl (oM · rfl) (qS 91 rfl (ok_slice (kl := .i64) (kh := .i64) (s := p17) (l := x1) (h := (Sl.len p17 : Int)) · tu128 si127 (.tmp rfl) (.inr ⟨_,rfl,(.tmp rfl)⟩) (.inl ⟨rfl,rfl⟩) hp31) (qS 92 rfl (oM · rfl) ?_)))))
     try dsimp only [w0,w1,w2,w3]
     obtain ⟨p32,hp32,h⟩ := bindo h
     refine q_call (dst := some 93) rfl (.func _) (.cons (.tmp rfl) (.cons (.tmp rfl) Evs.nil)) (HInv.static slices_rotateRight_book_entry_int.at_ slices_rotateRight_book_entry_int.body (slices_rotateRight_book_entry_int.snd  hp32)) ?_
     rintro _ _ ⟨rfl,rfl⟩
     refine rE ?_
     try dsimp only [w0,w1,w2,w3]
     refine qQ rfl (qR rfl rfl (qS 94 rfl (oM · rfl) (qS 6 rfl (oA · rfl) (rE ?_))))
     try dsimp only [w0,w1,w2,w3]
     cases h
     exact q_ret rfl at_.at_ rfl (res1 rfl rfl) ⟨rfl,rfl⟩
end
end slices_Insert_book_entry_int_book_entry_int
namespace slices_Insert_book_entry_int_book_entry_int_w
theorem at_ : FnAt Tryz.prog 446 Tryz.f446 := slices_Insert_book_entry_int_book_entry_int.at_
theorem body : Tryz.f446.body = some slices_Insert_book_entry_int_book_entry_int.c0 := slices_Insert_book_entry_int_book_entry_int.body
def f (x0 : Sl) (x1 : Int) (x2 : Sl) (S : HS) : Option ((Sl) × HS) := HS.ins S x0 x1 x2 2
theorem snd {base : Nat} {W0 : Env} {β0 : Bt} {x0 : Sl} {x1 : Int} {x2 : Sl} {S : HS} {p : (Sl) × HS} (h : f x0 x1 x2 S = some p) : HCall Tryz.prog base W0 β0 446 [(Sl.hv x0),(.int .i64 x1),(Sl.hv x2)] S (fun v S1 => v = (Sl.hv p.1) ∧ S1 = p.2) :=
 ins_snd (rot := fun a b T => slices_rotateRight_book_entry_int.f 0 a b T) (zr := [(.str []),(.int .i64 0)]) (fun _ _ _ h => slices_Insert_book_entry_int_book_entry_int.snd (k := 0) h) h
end slices_Insert_book_entry_int_book_entry_int_w
namespace slices_Reverse_book_entry_room_Room_book_entry_room_Room
theorem at_ : FnAt Tryz.prog 514 Tryz.f514 := ⟨Tryz.func514,by kernel_rfl⟩
noncomputable def d0 := (Tryz.f514.body).getD .skip
noncomputable def r1 := kR (kA d0)
noncomputable def r6 := kR (kA (kA (kA (kA (kB d0)))))
noncomputable def r12 := kR (kA (kA (kB (kA (kA (kB d0))))))
noncomputable def r13 := kR (kB (kB (kA (kA (kB d0)))))
noncomputable def c4 : Code := .seq (.seq (.region 1 r6 false) (.cond (.tmp 9) .skip (.exit 0))) (.seq (.block 1 (.region 3 r12 true)) (.region 2 r13 false))
noncomputable def c0 : Code := .seq (.region 0 r1 false) (.block 0 (.loop c4))
theorem body : Tryz.f514.body = some c0 := by kernel_rfl
section
variable {base : Nat} {W0 : Env} {β0 : Bt}
def L0 (k : Nat) : Nat → Sl → Int → Int → HS → Option ((Unit) × HS)
 | 0,_,_,_,_ => none
 | n + 1,y0,y2,y3,S =>
  (if y2 < y3 then
  (Option.bind (HS.idx S y0 y3 2) fun p2 =>
  (Option.bind (HS.ldS S (HA.fld p2 0)) fun p3 =>
  (Option.bind (HS.ldP S (HA.fld p2 1)) fun p4 =>
  (Option.bind (HS.idx S y0 y2 2) fun p5 =>
  (Option.bind (HS.ldS S (HA.fld p5 0)) fun p6 =>
  (Option.bind (HS.ldP S (HA.fld p5 1)) fun p7 =>
  (Option.bind (HS.idx S y0 y2 2) fun p8 =>
  (Option.bind (HS.sets S p8 [(.str p3),(.ptr p4)]) fun p9 =>
  (Option.bind (HS.idx p9 y0 y3 2) fun p10 =>
  (Option.bind (HS.sets p9 p10 [(.str p6),(.ptr p7)]) fun p11 =>
  (L0 k n) y0 (w64 (y2 + 1)) (w64 (y3 - 1)) p11)))))))))) else
  some ((),S))
theorem L0_snd {k : Nat}  : ∀ {n : Nat} ⦃y0 : Sl⦄ ⦃y2 : Int⦄ ⦃y3 : Int⦄ ⦃S : HS⦄ ⦃p : (Unit) × HS⦄ ⦃Gb Ge Gf Gg Gh Gi Gj Gk Gl Gm Gn Go Gp Gq Gr Gs Gt Gu Gv Gw Gx Gy Gz Ka Kb : HV⦄,L0 k n y0 y2 y3 S = some p → HRun Tryz.prog base W0 β0 514 none [.inLoop c4,.inBlock 0] ⟨[(Sl.hv y0),Gb,(.int .i64 y2),(.int .i64 y3),Ge,Gf,Gg,Gh,Gi,Gj,Gk,Gl,Gm,Gn,Go,Gp,Gq,Gr,Gs,Gt,Gu,Gv,Gw,Gx,Gy,Gz,Ka,Kb],[]⟩ S (fun v S1 => v = (.tup []) ∧ S1 = p.2) := by
 intro n
 induction n with
 | zero => intro _ _ _ _ _ _ _ _ _ _ _ _ _ _ _ _ _ _ _ _ _ _ _ _ _ _ _ _ _ _ h; cases h
 | succ n ih =>
  intro y0 y2 y3 S p Gb Ge Gf Gg Gh Gi Gj Gk Gl Gm Gn Go Gp Gq Gr Gs Gt Gu Gv Gw Gx Gy Gz Ka Kb h
  simp only [L0] at h
  refine hr_inLoop (qQ rfl (qQ rfl (qR rfl rfl (qS 7 rfl (oM · rfl) (qS 8 rfl (oM · rfl) (qS 9 rfl (oB · rfl rfl rfl) (rE ?_)))))))
  try dsimp only [w0,w1,w2,w3]
  rcases ifc h with ⟨hc1,h⟩ | ⟨hc1,h⟩
  ·refine q_cond_t rfl (.tmp rfl) (decide_eq_true hc1) (q_skipc rfl (qQ rfl (q_block rfl ?_)))
   refine x_start (cls := [0,0,0,0,0,0,1,1,0,0,1,1,1,2,1,2]) (rk := [0,1,12,13,2,3,4,5,6,7,8,9,10,11,14,15]) rfl (by kernel_rfl) ?_
   refine yf 14 [0] rfl (oM · rfl) ?_
   refine yf 15 [2] rfl (oM · rfl) ?_
   refine yf 16 [0] rfl (oM · rfl) ?_
   refine yf 17 [3] rfl (oM · rfl) ?_
   try dsimp only [w0,w1,w2,w3]
   refine yf 18 [0] rfl (oM · rfl) ?_
   refine yf 19 [3] rfl (oM · rfl) ?_
   obtain ⟨p2,hp2,h⟩ := bindo h
   refine yr 20 [18,19] rfl (oX (s := y0) · tu117 sz116 rfl rfl hp2) ?_
   obtain ⟨p3,hp3,h⟩ := bindo h
   obtain ⟨p4,hp4,h⟩ := bindo h
   refine yr 21 [20] rfl (ok_load_a (vs := [(.str p3),(.ptr p4)]) · ia116 (.tmp rfl) rfl ⟨ldS_out hp3,ldP_out hp4,trivial⟩ (by simp)) ?_
   try dsimp only [w0,w1,w2,w3]
   refine yf 22 [0] rfl (oM · rfl) ?_
   refine yf 23 [2] rfl (oM · rfl) ?_
   obtain ⟨p5,hp5,h⟩ := bindo h
   refine yr 24 [22,23] rfl (oX (s := y0) · tu117 sz116 rfl rfl hp5) ?_
   obtain ⟨p6,hp6,h⟩ := bindo h
   obtain ⟨p7,hp7,h⟩ := bindo h
   refine yr 25 [24] rfl (ok_load_a (vs := [(.str p6),(.ptr p7)]) · ia116 (.tmp rfl) rfl ⟨ldS_out hp6,ldP_out hp7,trivial⟩ (by simp)) ?_
   try dsimp only [w0,w1,w2,w3]
   obtain ⟨p8,hp8,h⟩ := bindo h
   refine yr 26 [14,15] rfl (oX (s := y0) · tu117 sz116 rfl rfl hp8) ?_
   obtain ⟨p9,hp9,h⟩ := bindo h
   refine x_go (e_op (dst := none) (ts := [26,21]) rfl (by intro _ _ h; cases h) (by kernel_rfl) (fun _ ho => ok_store_s (v := (.agg [(.str p3),(.ptr p4)])) ho sz116 (.tmp rfl) rfl (.tmp rfl) rfl hp9)) rfl ?_
   obtain ⟨p10,hp10,h⟩ := bindo h
   refine yr 27 [16,17] rfl (oX (s := y0) · tu117 sz116 rfl rfl hp10) ?_
   obtain ⟨p11,hp11,h⟩ := bindo h
   refine x_go (e_op (dst := none) (ts := [27,25]) rfl (by intro _ _ h; cases h) (by kernel_rfl) (fun _ ho => ok_store_s (v := (.agg [(.str p6),(.ptr p7)])) ho sz116 (.tmp rfl) rfl (.tmp rfl) rfl hp11)) rfl ?_
   refine x_rest rfl ?_
   refine rE ?_
   try dsimp only [w0,w1,w2,w3]
   refine hr_inBlock (qR rfl rfl (qS 10 rfl (oM · rfl) (qS 11 rfl (oC · rfl rfl) (qS 12 rfl (oM · rfl) (qS 13 rfl (oC · rfl rfl) ?_)))))
   try dsimp only [w0,w1,w2,w3]
   refine qS 2 rfl (oA · rfl) (qS 3 rfl (oA · rfl) (rE ?_))
   try dsimp only [w0,w1,w2,w3]
   try dsimp only [w0,w1,w2,w3]
   exact ih h
  ·cases h
   exact q_cond_f rfl (.tmp rfl) (decide_eq_false hc1) (q_exit rfl rfl (q_end at_.at_ rfl (res0 rfl) ⟨rfl,rfl⟩))
def f (k : Nat) (x0 : Sl) (S : HS) : Option ((Unit) × HS) :=
 L0 k k x0 0 (w64 ((Sl.len x0 : Int) - 1)) S
theorem snd {k : Nat} {x0 : Sl} {S : HS}  {p : (Unit) × HS} (h : f k x0 S = some p) : HCall Tryz.prog base W0 β0 514 [(Sl.hv x0)] S (fun v S1 => v = (.tup []) ∧ S1 = p.2) := by
 unfold f at h
 refine HCall.of_run at_.at_ body ?_
 show HRun Tryz.prog base W0 β0 514 none [.code c0] ⟨[(Sl.hv x0),τ,τ,τ,τ,τ,τ,τ,τ,τ,τ,τ,τ,τ,τ,τ,τ,τ,τ,τ,τ,τ,τ,τ,τ,τ,τ,τ],[]⟩ S _
 refine qQ rfl (qR rfl rfl (qS 4 rfl (oM · rfl) (qS 5 rfl (ok_len_sl (q := Sl.a x0) (n := Sl.len x0) (z := Sl.cap x0) · rfl tu117 (.tmp rfl)) (qS 6 rfl (oC · rfl rfl) (qS 2 rfl (ok_assign · (.int _ _)) ?_)))))
 try dsimp only [w0,w1,w2,w3]
 refine qS 3 rfl (oA · rfl) (rE ?_)
 try dsimp only [w0,w1,w2,w3]
 refine q_block rfl (q_loop rfl ?_)
 try dsimp only [w0,w1,w2,w3]
 exact L0_snd  h
end
end slices_Reverse_book_entry_room_Room_book_entry_room_Room
namespace slices_rotateLeft_book_entry_room_Room
theorem at_ : FnAt Tryz.prog 503 Tryz.f503 := ⟨Tryz.func503,by kernel_rfl⟩
noncomputable def d0 := (Tryz.f503.body).getD .skip
noncomputable def r1 := kR (kA d0)
noncomputable def r3 := kR (kA (kB d0))
noncomputable def r4 := kR (kB (kB d0))
noncomputable def c0 : Code := .seq (.region 0 r1 false) (.seq (.region 1 r3 false) (.region 2 r4 false))
theorem body : Tryz.f503.body = some c0 := by kernel_rfl
section
variable {base : Nat} {W0 : Env} {β0 : Bt}
def f (k : Nat) (x0 : Sl) (x1 : Int) (S : HS) : Option ((Unit) × HS) :=
 (Option.bind (HS.cut S x0 0 x1 2) fun p1 =>
 (Option.bind (slices_Reverse_book_entry_room_Room_book_entry_room_Room.f k p1 S) fun p2 =>
 (Option.bind (HS.cut p2.2 x0 x1 (Sl.len x0 : Int) 2) fun p3 =>
 (Option.bind (slices_Reverse_book_entry_room_Room_book_entry_room_Room.f k p3 p2.2) fun p4 =>
 (Option.bind (slices_Reverse_book_entry_room_Room_book_entry_room_Room.f k x0 p4.2) fun p5 =>
 some ((),p5.2))))))
theorem snd {k : Nat} {x0 : Sl} {x1 : Int} {S : HS}  {p : (Unit) × HS} (h : f k x0 x1 S = some p) : HCall Tryz.prog base W0 β0 503 [(Sl.hv x0),(.int .i64 x1)] S (fun v S1 => v = (.tup []) ∧ S1 = p.2) := by
 unfold f at h
 refine HCall.of_run at_.at_ body ?_
 show HRun Tryz.prog base W0 β0 503 none [.code c0] ⟨[(Sl.hv x0),(.int .i64 x1),τ,τ,τ,τ,τ,τ,τ,τ,τ,τ,τ,τ],[]⟩ S _
 obtain ⟨p1,hp1,h⟩ := bindo h
 obtain ⟨p2,hp2,h⟩ := bindo h
 refine qQ rfl (qR rfl rfl (qS 4 rfl (oM · rfl) (qS 5 rfl (oM · rfl) (qS 6 rfl (ok_slice (kl := .i64) (kh := .i64) (s := x0) (l := 0) (h := x1) · tu117 si116 (.tmp rfl) (.inl ⟨rfl,rfl⟩) (.inr ⟨_,rfl,(.tmp rfl)⟩) hp1) (q_call (dst := some 7) rfl (.func _) (.cons (.tmp rfl) Evs.nil) (HInv.static slices_Reverse_book_entry_room_Room_book_entry_room_Room.at_ slices_Reverse_book_entry_room_Room_book_entry_room_Room.body (slices_Reverse_book_entry_room_Room_book_entry_room_Room.snd  hp2)) ?_)))))
 rintro _ _ ⟨rfl,rfl⟩
 refine rE ?_
 try dsimp only [w0,w1,w2,w3]
 obtain ⟨p3,hp3,h⟩ := bindo h
 obtain ⟨p4,hp4,h⟩ := bindo h
 refine qQ rfl (qR rfl rfl (qS 8 rfl (oM · rfl) (qS 9 rfl (oM · rfl) (qS 10 rfl (ok_slice (kl := .i64) (kh := .i64) (s := x0) (l := x1) (h := (Sl.len x0 : Int)) · tu117 si116 (.tmp rfl) (.inr ⟨_,rfl,(.tmp rfl)⟩) (.inl ⟨rfl,rfl⟩) hp3) (q_call (dst := some 11) rfl (.func _) (.cons (.tmp rfl) Evs.nil) (HInv.static slices_Reverse_book_entry_room_Room_book_entry_room_Room.at_ slices_Reverse_book_entry_room_Room_book_entry_room_Room.body (slices_Reverse_book_entry_room_Room_book_entry_room_Room.snd  hp4)) ?_)))))
 rintro _ _ ⟨rfl,rfl⟩
 refine rE ?_
 try dsimp only [w0,w1,w2,w3]
 obtain ⟨p5,hp5,h⟩ := bindo h
 refine qR rfl rfl (qS 12 rfl (oM · rfl) (q_call (dst := some 13) rfl (.func _) (.cons (.tmp rfl) Evs.nil) (HInv.static slices_Reverse_book_entry_room_Room_book_entry_room_Room.at_ slices_Reverse_book_entry_room_Room_book_entry_room_Room.body (slices_Reverse_book_entry_room_Room_book_entry_room_Room.snd  hp5)) ?_))
 rintro _ _ ⟨rfl,rfl⟩
 refine rE ?_
 try dsimp only [w0,w1,w2,w3]
 cases h
 exact q_end at_.at_ rfl (res0 rfl) ⟨rfl,rfl⟩
end
end slices_rotateLeft_book_entry_room_Room
namespace slices_rotateRight_book_entry_room_Room
theorem at_ : FnAt Tryz.prog 485 Tryz.f485 := ⟨Tryz.func485,by kernel_rfl⟩
noncomputable def d0 := (Tryz.f485.body).getD .skip
noncomputable def r0 := kR d0
noncomputable def c0 : Code := .region 0 r0 false
theorem body : Tryz.f485.body = some c0 := by kernel_rfl
section
variable {base : Nat} {W0 : Env} {β0 : Bt}
def f (k : Nat) (x0 : Sl) (x1 : Int) (S : HS) : Option ((Unit) × HS) :=
 (Option.bind (slices_rotateLeft_book_entry_room_Room.f k x0 (w64 ((Sl.len x0 : Int) - x1)) S) fun p1 =>
 some ((),p1.2))
theorem snd {k : Nat} {x0 : Sl} {x1 : Int} {S : HS}  {p : (Unit) × HS} (h : f k x0 x1 S = some p) : HCall Tryz.prog base W0 β0 485 [(Sl.hv x0),(.int .i64 x1)] S (fun v S1 => v = (.tup []) ∧ S1 = p.2) := by
 unfold f at h
 refine HCall.of_run at_.at_ body ?_
 show HRun Tryz.prog base W0 β0 485 none [.code c0] ⟨[(Sl.hv x0),(.int .i64 x1),τ,τ,τ,τ,τ,τ,τ,τ],[]⟩ S _
 refine qR rfl rfl (qS 4 rfl (oM · rfl) (qS 5 rfl (oM · rfl) (qS 6 rfl (ok_len_sl (q := Sl.a x0) (n := Sl.len x0) (z := Sl.cap x0) · rfl tu117 (.tmp rfl)) (qS 7 rfl (oM · rfl) ?_))))
 try dsimp only [w0,w1,w2,w3]
 obtain ⟨p1,hp1,h⟩ := bindo h
 refine qS 8 rfl (oB · rfl rfl rfl) (q_call (dst := some 9) rfl (.func _) (.cons (.tmp rfl) (.cons (.tmp rfl) Evs.nil)) (HInv.static slices_rotateLeft_book_entry_room_Room.at_ slices_rotateLeft_book_entry_room_Room.body (slices_rotateLeft_book_entry_room_Room.snd  hp1)) ?_)
 rintro _ _ ⟨rfl,rfl⟩
 refine rE ?_
 try dsimp only [w0,w1,w2,w3]
 cases h
 exact q_end at_.at_ rfl (res0 rfl) ⟨rfl,rfl⟩
end
end slices_rotateRight_book_entry_room_Room
namespace slices_Insert_book_entry_room_Room_book_entry_room_Room
theorem at_ : FnAt Tryz.prog 450 Tryz.f450 := ⟨Tryz.func450,by kernel_rfl⟩
noncomputable def d0 := (Tryz.f450.body).getD .skip
noncomputable def r1 := kR (kA d0)
noncomputable def r3 := kR (kA (kB d0))
noncomputable def r5 := kR (kA (kB (kB d0)))
noncomputable def d6 := kB (kB (kB d0))
noncomputable def r8 := kR (kA (kA d6))
noncomputable def r11 := kR (kA (kA (kB (kA d6))))
noncomputable def r15 := kR (kA (kB d6))
noncomputable def r18 := kR (kA (kA (kB (kB d6))))
noncomputable def r21 := kR (kA (kA (kB (kA (kB (kB d6))))))
noncomputable def d24 := kB (kB (kB d6))
noncomputable def r26 := kR (kA (kA d24))
noncomputable def d28 := kA (kB (kA d24))
noncomputable def r29 := kR (kA d28)
noncomputable def r31 := kR (kA (kB d28))
noncomputable def r33 := kR (kA (kB (kB d28)))
noncomputable def r35 := kR (kA (kB (kB (kB d28))))
noncomputable def r39 := kR (kA (kB d24))
noncomputable def d41 := kA (kB (kB d24))
noncomputable def r42 := kR (kA d41)
noncomputable def r45 := kR (kA (kA (kB d41)))
noncomputable def r47 := kR (kA (kB (kA (kB d41))))
noncomputable def r49 := kR (kA (kB (kB (kA (kB d41)))))
noncomputable def r53 := kR (kA (kB (kB (kB d24))))
noncomputable def r55 := kR (kA (kB (kB (kB (kB d24)))))
noncomputable def r57 := kR (kA (kB (kB (kB (kB (kB d24))))))
noncomputable def c0 : Code := .seq (.region 0 r1 false) (.seq (.region 1 r3 false) (.seq (.region 2 r5 false) (.seq (.seq (.region 3 r8 false) (.cond (.tmp 16) (.seq (.region 4 r11 false) .ret) .skip)) (.seq (.region 5 r15 false) (.seq (.seq (.region 6 r18 false) (.cond (.tmp 22) (.seq (.region 7 r21 false) .ret) .skip)) (.seq (.seq (.region 8 r26 false) (.cond (.tmp 31) (.seq (.region 9 r29 false) (.seq (.region 10 r31 false) (.seq (.region 11 r33 true) (.seq (.region 12 r35 false) .ret)))) .skip)) (.seq (.region 13 r39 false) (.seq (.seq (.region 14 r42 false) (.cond (.tmp 68) (.seq (.region 15 r45 true) (.seq (.region 16 r47 false) (.seq (.region 17 r49 false) .ret))) .skip)) (.seq (.region 18 r53 false) (.seq (.region 19 r55 false) (.seq (.region 20 r57 false) .ret)))))))))))
theorem body : Tryz.f450.body = some c0 := by kernel_rfl
section
variable {base : Nat} {W0 : Env} {β0 : Bt}
def f (k : Nat) (x0 : Sl) (x1 : Int) (x2 : Sl) (S : HS) : Option ((Sl) × HS) :=
 (Option.bind (HS.cut S x0 x1 (Sl.len x0 : Int) 2) fun p1 =>
 (if (Sl.len x2 : Int) = 0 then
 some (x0,S) else
 (if x1 = (Sl.len x0 : Int) then
 (Option.bind (HS.rows S x2 2) fun p4 =>
 (Option.bind (HS.app S x0 p4 2) fun p5 =>
 some ((p5.1),(p5.2)))) else
 (Option.bind (Sl.capOf x0) fun p6 =>
 (if (w64 ((Sl.len x0 : Int) + (Sl.len x2 : Int))) > p6 then
 (Option.bind (HS.cut S x0 0 x1 2) fun p8 =>
 (Option.bind (HS.appZ S p8 (w64 ((w64 ((Sl.len x0 : Int) + (Sl.len x2 : Int))) - x1)) [(.str []),(.ptr none)] 2) fun p9 =>
 (Option.bind (HS.cut (p9.2) (p9.1) x1 (Sl.len (p9.1) : Int) 2) fun p10 =>
 (Option.bind (HS.rows (p9.2) x2 2) fun p11 =>
 (Option.bind (HS.over (p9.2) p10 (List.take (Sl.len p10) p11) 2) fun p12 =>
 (Option.bind (HS.cut p12 (p9.1) (w64 (x1 + (Sl.len x2 : Int))) (Sl.len (p9.1) : Int) 2) fun p13 =>
 (Option.bind (HS.cut p12 x0 x1 (Sl.len x0 : Int) 2) fun p14 =>
 (Option.bind (HS.rows p12 p14 2) fun p15 =>
 (Option.bind (HS.over p12 p13 (List.take (Sl.len p13) p15) 2) fun p16 =>
 some ((p9.1),p16)))))))))) else
 (Option.bind (HS.cut S x0 0 (w64 ((Sl.len x0 : Int) + (Sl.len x2 : Int))) 2) fun p17 =>
 (Option.bind (HS.cut S p17 (w64 (x1 + (Sl.len x2 : Int))) (Sl.len p17 : Int) 2) fun p18 =>
 (Option.bind (HS.ovl S x2 p18) fun p19 =>
 (if (!p19) = true then
 (Option.bind (HS.cut S p17 (w64 (x1 + (Sl.len x2 : Int))) (Sl.len p17 : Int) 2) fun p21 =>
 (Option.bind (HS.cut S p17 x1 (Sl.len p17 : Int) 2) fun p22 =>
 (Option.bind (HS.rows S p22 2) fun p23 =>
 (Option.bind (HS.over S p21 (List.take (Sl.len p21) p23) 2) fun p24 =>
 (Option.bind (HS.cut p24 p17 x1 (Sl.len p17 : Int) 2) fun p25 =>
 (Option.bind (HS.rows p24 x2 2) fun p26 =>
 (Option.bind (HS.over p24 p25 (List.take (Sl.len p25) p26) 2) fun p27 =>
 some (p17,p27)))))))) else
 (Option.bind (HS.cut S p17 (Sl.len x0 : Int) (Sl.len p17 : Int) 2) fun p28 =>
 (Option.bind (HS.rows S x2 2) fun p29 =>
 (Option.bind (HS.over S p28 (List.take (Sl.len p28) p29) 2) fun p30 =>
 (Option.bind (HS.cut p30 p17 x1 (Sl.len p17 : Int) 2) fun p31 =>
 (Option.bind (slices_rotateRight_book_entry_room_Room.f k p31 (Sl.len x2 : Int) p30) fun p32 =>
 some (p17,p32.2)))))))))))))))
theorem snd {k : Nat} {x0 : Sl} {x1 : Int} {x2 : Sl} {S : HS}  {p : (Sl) × HS} (h : f k x0 x1 x2 S = some p) : HCall Tryz.prog base W0 β0 450 [(Sl.hv x0),(.int .i64 x1),(Sl.hv x2)] S (fun v S1 => v = (Sl.hv p.1) ∧ S1 = p.2) := by
 unfold f at h
 refine HCall.of_run at_.at_ body ?_
 show HRun Tryz.prog base W0 β0 450 none [.code c0] ⟨[(Sl.hv x0),(.int .i64 x1),(Sl.hv x2),τ,τ,τ,τ,τ,τ,τ,τ,τ,τ,τ,τ,τ,τ,τ,τ,τ,τ,τ,τ,τ,τ,τ,τ,τ,τ,τ,τ,τ,τ,τ,τ,τ,τ,τ,τ,τ,τ,τ,τ,τ,τ,τ,τ,τ,τ,τ,τ,τ,τ,τ,τ,τ,τ,τ,τ,τ,τ,τ,τ,τ,τ,τ,τ,τ,τ,τ,τ,τ,τ,τ,τ,τ,τ,τ,τ,τ,τ,τ,τ,τ,τ,τ,τ,τ,τ,τ,τ,τ,τ,τ,τ],[]⟩ S _
 refine qQ rfl (qR rfl rfl (qS 6 rfl (ok_assign · (.const fun _ => .slNil none)) (rE ?_)))
 try dsimp only [w0,w1,w2,w3]
 obtain ⟨p1,hp1,h⟩ := bindo h
 refine qQ rfl (qR rfl rfl (qS 10 rfl (oM · rfl) (qS 11 rfl (oM · rfl) (qS 12 rfl (ok_slice (kl := .i64) (kh := .i64) (s := x0) (l := x1) (h := (Sl.len x0 : Int)) · tu117 si116 (.tmp rfl) (.inr ⟨_,rfl,(.tmp rfl)⟩) (.inl ⟨rfl,rfl⟩) hp1) (rE ?_)))))
 try dsimp only [w0,w1,w2,w3]
 refine qQ rfl (qR rfl rfl (qS 13 rfl (oM · rfl) (qS 14 rfl (ok_len_sl (q := Sl.a x2) (n := Sl.len x2) (z := Sl.cap x2) · rfl tu117 (.tmp rfl)) (qS 7 rfl (oA · rfl) (rE ?_)))))
 try dsimp only [w0,w1,w2,w3]
 refine qQ rfl (qQ rfl (qR rfl rfl (qS 15 rfl (oM · rfl) (qS 16 rfl (oC · rfl rfl) (rE ?_)))))
 try dsimp only [w0,w1,w2,w3]
 rcases ifc h with ⟨hc2,h⟩ | ⟨hc2,h⟩
 ·refine q_cond_t rfl (.tmp rfl) (decide_eq_true hc2) (qQ rfl (qR rfl rfl (qS 17 rfl (oM · rfl) (qS 6 rfl (oA · rfl) (rE ?_)))))
  try dsimp only [w0,w1,w2,w3]
  cases h
  exact q_ret rfl at_.at_ rfl (res1 rfl rfl) ⟨rfl,rfl⟩
 ·refine q_cond_f rfl (.tmp rfl) (decide_eq_false hc2) (q_skipc rfl (qQ rfl (qR rfl rfl (qS 18 rfl (oM · rfl) (qS 19 rfl (ok_len_sl (q := Sl.a x0) (n := Sl.len x0) (z := Sl.cap x0) · rfl tu117 (.tmp rfl)) (qS 8 rfl (oA · rfl) (rE ?_)))))))
  try dsimp only [w0,w1,w2,w3]
  refine qQ rfl (qQ rfl (qR rfl rfl (qS 20 rfl (oM · rfl) (qS 21 rfl (oM · rfl) (qS 22 rfl (oB · rfl rfl rfl) (rE ?_))))))
  try dsimp only [w0,w1,w2,w3]
  rcases ifc h with ⟨hc3,h⟩ | ⟨hc3,h⟩
  ·obtain ⟨p4,hp4,h⟩ := bindo h
   obtain ⟨p5,hp5,h⟩ := bindo h
   refine q_cond_t rfl (.tmp rfl) (decide_eq_true hc3) (qQ rfl (qR rfl rfl (qS 23 rfl (oM · rfl) (qS 24 rfl (oM · rfl) (qS 25 rfl (ok_append (s := x0) (s1 := x2) el117 · rfl rfl ⟨_,tu117⟩ (.tmp rfl) (.tmp rfl) hp4 hp5) (qS 6 rfl (oA · rfl) (rE ?_)))))))
   try dsimp only [w0,w1,w2,w3]
   cases h
   exact q_ret rfl at_.at_ rfl (res1 rfl rfl) ⟨rfl,rfl⟩
  ·refine q_cond_f rfl (.tmp rfl) (decide_eq_false hc3) (q_skipc rfl (qQ rfl (qQ rfl (qR rfl rfl (qS 26 rfl (oM · rfl) (qS 27 rfl (oM · rfl) (qS 28 rfl (oB · rfl rfl rfl) (qS 29 rfl (oM · rfl) ?_))))))))
   try dsimp only [w0,w1,w2,w3]
   obtain ⟨p6,hp6,h⟩ := bindo h
   refine qS 30 rfl (ok_cap (s := x0) · rfl tu117 (.tmp rfl) hp6) (qS 31 rfl (oB · rfl rfl rfl) (rE ?_))
   try dsimp only [w0,w1,w2,w3]
   rcases ifc h with ⟨hc7,h⟩ | ⟨hc7,h⟩
   ·obtain ⟨p8,hp8,h⟩ := bindo h
    refine q_cond_t rfl (.tmp rfl) (decide_eq_true hc7) (qQ rfl (qR rfl rfl (qS 32 rfl (oM · rfl) (qS 33 rfl (oM · rfl) (qS 34 rfl (ok_slice (kl := .i64) (kh := .i64) (s := x0) (l := 0) (h := x1) · tu117 si116 (.tmp rfl) (.inl ⟨rfl,rfl⟩) (.inr ⟨_,rfl,(.tmp rfl)⟩) hp8) (qS 35 rfl (oM · rfl) ?_))))))
    try dsimp only [w0,w1,w2,w3]
    refine qS 36 rfl (oM · rfl) (qS 37 rfl (oB · rfl rfl rfl) (qS 38 rfl (oM · rfl) (qS 39 rfl (oB · rfl rfl rfl) ?_)))
    try dsimp only [w0,w1,w2,w3]
    obtain ⟨p9,hp9,h⟩ := bindo h
    refine qS 40 rfl (ok_append_zeros (s := p8) el117 · rfl rfl tu3 (.tmp rfl) (.tmp rfl) hp9) (qS 9 rfl (oA · rfl) (rE ?_))
    try dsimp only [w0,w1,w2,w3]
    obtain ⟨p10,hp10,h⟩ := bindo h
    refine qQ rfl (qR rfl rfl (qS 41 rfl (oM · rfl) (qS 42 rfl (oM · rfl) (qS 43 rfl (ok_slice (kl := .i64) (kh := .i64) (s := (p9.1)) (l := x1) (h := (Sl.len (p9.1) : Int)) · tu117 si116 (.tmp rfl) (.inr ⟨_,rfl,(.tmp rfl)⟩) (.inl ⟨rfl,rfl⟩) hp10) (qS 44 rfl (oM · rfl) ?_)))))
    try dsimp only [w0,w1,w2,w3]
    obtain ⟨p11,hp11,h⟩ := bindo h
    obtain ⟨p12,hp12,h⟩ := bindo h
    refine qS 45 rfl (ok_copy (s := p10) (s1 := x2) el117 · rfl (.tmp rfl) (.tmp rfl) hp11 hp12) (rE ?_)
    try dsimp only [w0,w1,w2,w3]
    refine qQ rfl ?_
    refine x_start (cls := [0,0,0,0,1,0,0,1,2]) (rk := [0,1,2,3,4,5,6,7,8]) rfl (by kernel_rfl) ?_
    refine yf 46 [9] rfl (oM · rfl) ?_
    refine yf 47 [1] rfl (oM · rfl) ?_
    refine yf 48 [7] rfl (oM · rfl) ?_
    refine yf 49 [47,48] rfl (oB · rfl rfl rfl) ?_
    try dsimp only [w0,w1,w2,w3]
    obtain ⟨p13,hp13,h⟩ := bindo h
    refine yr 50 [46,49] rfl (ok_slice (kl := .i64) (kh := .i64) (s := (p9.1)) (l := (w64 (x1 + (Sl.len x2 : Int)))) (h := (Sl.len (p9.1) : Int)) · tu117 si116 (.tmp rfl) (.inr ⟨_,rfl,(.tmp rfl)⟩) (.inl ⟨rfl,rfl⟩) hp13) ?_
    refine yf 51 [0] rfl (oM · rfl) ?_
    refine yf 52 [1] rfl (oM · rfl) ?_
    obtain ⟨p14,hp14,h⟩ := bindo h
    refine yr 53 [51,52] rfl (ok_slice (kl := .i64) (kh := .i64) (s := x0) (l := x1) (h := (Sl.len x0 : Int)) · tu117 si116 (.tmp rfl) (.inr ⟨_,rfl,(.tmp rfl)⟩) (.inl ⟨rfl,rfl⟩) hp14) ?_
    try dsimp only [w0,w1,w2,w3]
    obtain ⟨p15,hp15,h⟩ := bindo h
    obtain ⟨p16,hp16,h⟩ := bindo h
    refine ye 54 [50,53] rfl (ok_copy (s := p13) (s1 := p14) el117 · rfl (.tmp rfl) (.tmp rfl) hp15 hp16) ?_
    refine x_rest rfl ?_
    refine rE ?_
    try dsimp only [w0,w1,w2,w3]
    refine qQ rfl (qR rfl rfl (qS 55 rfl (oM · rfl) (qS 6 rfl (oA · rfl) (rE ?_))))
    try dsimp only [w0,w1,w2,w3]
    cases h
    exact q_ret rfl at_.at_ rfl (res1 rfl rfl) ⟨rfl,rfl⟩
   ·refine q_cond_f rfl (.tmp rfl) (decide_eq_false hc7) (q_skipc rfl (qQ rfl (qR rfl rfl (qS 56 rfl (oM · rfl) (qS 57 rfl (oM · rfl) (qS 58 rfl (oM · rfl) (qS 59 rfl (oB · rfl rfl rfl) ?_)))))))
    try dsimp only [w0,w1,w2,w3]
    obtain ⟨p17,hp17,h⟩ := bindo h
    refine qS 60 rfl (ok_slice (kl := .i64) (kh := .i64) (s := x0) (l := 0) (h := (w64 ((Sl.len x0 : Int) + (Sl.len x2 : Int)))) · tu117 si116 (.tmp rfl) (.inl ⟨rfl,rfl⟩) (.inr ⟨_,rfl,(.tmp rfl)⟩) hp17) (qS 0 rfl (oA · rfl) (rE ?_))
    try dsimp only [w0,w1,w2,w3]
    refine qQ rfl (qQ rfl (qR rfl rfl (qS 61 rfl (oM · rfl) (qS 62 rfl (oM · rfl) (qS 63 rfl (oM · rfl) (qS 64 rfl (oM · rfl) ?_))))))
    try dsimp only [w0,w1,w2,w3]
    obtain ⟨p18,hp18,h⟩ := bindo h
    obtain ⟨p19,hp19,h⟩ := bindo h
    refine qS 65 rfl (oB · rfl rfl rfl) (qS 66 rfl (ok_slice (kl := .i64) (kh := .i64) (s := p17) (l := (w64 (x1 + (Sl.len x2 : Int)))) (h := (Sl.len p17 : Int)) · tu117 si116 (.tmp rfl) (.inr ⟨_,rfl,(.tmp rfl)⟩) (.inl ⟨rfl,rfl⟩) hp18) (qS 67 rfl (ok_overlaps (s1 := x2) (s2 := p18) · ext484 tu117 si116 (.tmp rfl) (.tmp rfl) hp19) (qS 68 rfl (ok_not · (.tmp rfl)) (rE ?_))))
    try dsimp only [w0,w1,w2,w3]
    rcases ifc h with ⟨hc20,h⟩ | ⟨hc20,h⟩
    ·refine q_cond_t rfl (.tmp rfl) hc20 (qQ rfl ?_)
     refine x_start (cls := [0,0,0,0,1,0,0,1,2]) (rk := [0,1,2,3,4,5,6,7,8]) rfl (by kernel_rfl) ?_
     refine yf 69 [0] rfl (oM · rfl) ?_
     refine yf 70 [1] rfl (oM · rfl) ?_
     refine yf 71 [7] rfl (oM · rfl) ?_
     refine yf 72 [70,71] rfl (oB · rfl rfl rfl) ?_
     try dsimp only [w0,w1,w2,w3]
     obtain ⟨p21,hp21,h⟩ := bindo h
     refine yr 73 [69,72] rfl (ok_slice (kl := .i64) (kh := .i64) (s := p17) (l := (w64 (x1 + (Sl.len x2 : Int)))) (h := (Sl.len p17 : Int)) · tu117 si116 (.tmp rfl) (.inr ⟨_,rfl,(.tmp rfl)⟩) (.inl ⟨rfl,rfl⟩) hp21) ?_
     refine yf 74 [0] rfl (oM · rfl) ?_
     refine yf 75 [1] rfl (oM · rfl) ?_
     obtain ⟨p22,hp22,h⟩ := bindo h
     refine yr 76 [74,75] rfl (ok_slice (kl := .i64) (kh := .i64) (s := p17) (l := x1) (h := (Sl.len p17 : Int)) · tu117 si116 (.tmp rfl) (.inr ⟨_,rfl,(.tmp rfl)⟩) (.inl ⟨rfl,rfl⟩) hp22) ?_
     try dsimp only [w0,w1,w2,w3]
     obtain ⟨p23,hp23,h⟩ := bindo h
     obtain ⟨p24,hp24,h⟩ := bindo h
     refine ye 77 [73,76] rfl (ok_copy (s := p21) (s1 := p22) el117 · rfl (.tmp rfl) (.tmp rfl) hp23 hp24) ?_
     refine x_rest rfl ?_
     refine rE ?_
     try dsimp only [w0,w1,w2,w3]
     obtain ⟨p25,hp25,h⟩ := bindo h
     refine qQ rfl (qR rfl rfl (qS 78 rfl (oM · rfl) (qS 79 rfl (oM · rfl) (qS 80 rfl (ok_slice (kl := .i64) (kh := .i64) (s := p17) (l := x1) (h := (Sl.len p17 : Int)) · tu117 si116 (.tmp rfl) (.inr ⟨_,rfl,(.tmp rfl)⟩) (.inl ⟨rfl,rfl⟩) hp25) (qS 81 rfl (oM · rfl) ?_)))))
     try dsimp only [w0,w1,w2,w3]
     obtain ⟨p26,hp26,h⟩ := bindo h
     obtain ⟨p27,hp27,h⟩ := bindo h
     refine qS 82 rfl (ok_copy (s := p25) (s1 := x2) el117 · rfl (.tmp rfl) (.tmp rfl) hp26 hp27) (rE ?_)
     try dsimp only [w0,w1,w2,w3]
     refine qQ rfl (qR rfl rfl (qS 83 rfl (oM · rfl) (qS 6 rfl (oA · rfl) (rE ?_))))
     try dsimp only [w0,w1,w2,w3]
     cases h
     exact q_ret rfl at_.at_ rfl (res1 rfl rfl) ⟨rfl,rfl⟩
    ·obtain ⟨p28,hp28,h⟩ := bindo h
     refine q_cond_f rfl (.tmp rfl) (bfalse hc20) (q_skipc rfl (qQ rfl (qR rfl rfl (qS 84 rfl (oM · rfl) (qS 85 rfl (oM · rfl) (qS 86 rfl (ok_slice (kl := .i64) (kh := .i64) (s := p17) (l := (Sl.len x0 : Int)) (h := (Sl.len p17 : Int)) · tu117 si116 (.tmp rfl) (.inr ⟨_,rfl,(.tmp rfl)⟩) (.inl ⟨rfl,rfl⟩) hp28) (qS 87 rfl (oM · rfl) ?_)))))))
     try dsimp only [w0,w1,w2,w3]
     obtain ⟨p29,hp29,h⟩ := bindo h
     obtain ⟨p30,hp30,h⟩ := bindo h
     refine qS 88 rfl (ok_copy (s := p28) (s1 := x2) el117 · rfl (.tmp rfl) (.tmp rfl) hp29 hp30) (rE ?_)
     try dsimp only [w0,w1,w2,w3]
     obtain ⟨p31,hp31,h⟩ := bindo h
     refine qQ rfl (qR rfl rfl (qS 89 rfl (oM · rfl) (qS 90 rfl (oM · rfl) (qS 91 rfl (ok_slice (kl := .i64) (kh := .i64) (s := p17) (l := x1) (h := (Sl.len p17 : Int)) · tu117 si116 (.tmp rfl) (.inr ⟨_,rfl,(.tmp rfl)⟩) (.inl ⟨rfl,rfl⟩) hp31) (qS 92 rfl (oM · rfl) ?_)))))
     try dsimp only [w0,w1,w2,w3]
     obtain ⟨p32,hp32,h⟩ := bindo h
     refine q_call (dst := some 93) rfl (.func _) (.cons (.tmp rfl) (.cons (.tmp rfl) Evs.nil)) (HInv.static slices_rotateRight_book_entry_room_Room.at_ slices_rotateRight_book_entry_room_Room.body (slices_rotateRight_book_entry_room_Room.snd  hp32)) ?_
     rintro _ _ ⟨rfl,rfl⟩
     refine rE ?_
     try dsimp only [w0,w1,w2,w3]
     refine qQ rfl (qR rfl rfl (qS 94 rfl (oM · rfl) (qS 6 rfl (oA · rfl) (rE ?_))))
     try dsimp only [w0,w1,w2,w3]
     cases h
     exact q_ret rfl at_.at_ rfl (res1 rfl rfl) ⟨rfl,rfl⟩
end
end slices_Insert_book_entry_room_Room_book_entry_room_Room
namespace slices_Insert_book_entry_room_Room_book_entry_room_Room_w
theorem at_ : FnAt Tryz.prog 450 Tryz.f450 := slices_Insert_book_entry_room_Room_book_entry_room_Room.at_
theorem body : Tryz.f450.body = some slices_Insert_book_entry_room_Room_book_entry_room_Room.c0 := slices_Insert_book_entry_room_Room_book_entry_room_Room.body
def f (x0 : Sl) (x1 : Int) (x2 : Sl) (S : HS) : Option ((Sl) × HS) := HS.ins S x0 x1 x2 2
theorem snd {base : Nat} {W0 : Env} {β0 : Bt} {x0 : Sl} {x1 : Int} {x2 : Sl} {S : HS} {p : (Sl) × HS} (h : f x0 x1 x2 S = some p) : HCall Tryz.prog base W0 β0 450 [(Sl.hv x0),(.int .i64 x1),(Sl.hv x2)] S (fun v S1 => v = (Sl.hv p.1) ∧ S1 = p.2) :=
 ins_snd (rot := fun a b T => slices_rotateRight_book_entry_room_Room.f 0 a b T) (zr := [(.str []),(.ptr none)]) (fun _ _ _ h => slices_Insert_book_entry_room_Room_book_entry_room_Room.snd (k := 0) h) h
end slices_Insert_book_entry_room_Room_book_entry_room_Room_w
namespace slices_Reverse_api_Member_api_Member
theorem at_ : FnAt Tryz.prog 515 Tryz.f515 := ⟨Tryz.func515,by kernel_rfl⟩
noncomputable def d0 := (Tryz.f515.body).getD .skip
noncomputable def r1 := kR (kA d0)
noncomputable def r6 := kR (kA (kA (kA (kA (kB d0)))))
noncomputable def r12 := kR (kA (kA (kB (kA (kA (kB d0))))))
noncomputable def r13 := kR (kB (kB (kA (kA (kB d0)))))
noncomputable def c4 : Code := .seq (.seq (.region 1 r6 false) (.cond (.tmp 9) .skip (.exit 0))) (.seq (.block 1 (.region 3 r12 true)) (.region 2 r13 false))
noncomputable def c0 : Code := .seq (.region 0 r1 false) (.block 0 (.loop c4))
theorem body : Tryz.f515.body = some c0 := by kernel_rfl
section
variable {base : Nat} {W0 : Env} {β0 : Bt}
def L0 (k : Nat) : Nat → Sl → Int → Int → HS → Option ((Unit) × HS)
 | 0,_,_,_,_ => none
 | n + 1,y0,y2,y3,S =>
  (if y2 < y3 then
  (Option.bind (HS.idx S y0 y3 3) fun p2 =>
  (Option.bind (HS.ldI S .i64 (HA.fld p2 0)) fun p3 =>
  (Option.bind (HS.ldB S (HA.fld p2 1)) fun p4 =>
  (Option.bind (HS.ldB S (HA.fld p2 2)) fun p5 =>
  (Option.bind (HS.idx S y0 y2 3) fun p6 =>
  (Option.bind (HS.ldI S .i64 (HA.fld p6 0)) fun p7 =>
  (Option.bind (HS.ldB S (HA.fld p6 1)) fun p8 =>
  (Option.bind (HS.ldB S (HA.fld p6 2)) fun p9 =>
  (Option.bind (HS.idx S y0 y2 3) fun p10 =>
  (Option.bind (HS.sets S p10 [(.int .i64 p3),(.bool p4),(.bool p5)]) fun p11 =>
  (Option.bind (HS.idx p11 y0 y3 3) fun p12 =>
  (Option.bind (HS.sets p11 p12 [(.int .i64 p7),(.bool p8),(.bool p9)]) fun p13 =>
  (L0 k n) y0 (w64 (y2 + 1)) (w64 (y3 - 1)) p13)))))))))))) else
  some ((),S))
theorem L0_snd {k : Nat}  : ∀ {n : Nat} ⦃y0 : Sl⦄ ⦃y2 : Int⦄ ⦃y3 : Int⦄ ⦃S : HS⦄ ⦃p : (Unit) × HS⦄ ⦃Gb Ge Gf Gg Gh Gi Gj Gk Gl Gm Gn Go Gp Gq Gr Gs Gt Gu Gv Gw Gx Gy Gz Ka Kb : HV⦄,L0 k n y0 y2 y3 S = some p → HRun Tryz.prog base W0 β0 515 none [.inLoop c4,.inBlock 0] ⟨[(Sl.hv y0),Gb,(.int .i64 y2),(.int .i64 y3),Ge,Gf,Gg,Gh,Gi,Gj,Gk,Gl,Gm,Gn,Go,Gp,Gq,Gr,Gs,Gt,Gu,Gv,Gw,Gx,Gy,Gz,Ka,Kb],[]⟩ S (fun v S1 => v = (.tup []) ∧ S1 = p.2) := by
 intro n
 induction n with
 | zero => intro _ _ _ _ _ _ _ _ _ _ _ _ _ _ _ _ _ _ _ _ _ _ _ _ _ _ _ _ _ _ h; cases h
 | succ n ih =>
  intro y0 y2 y3 S p Gb Ge Gf Gg Gh Gi Gj Gk Gl Gm Gn Go Gp Gq Gr Gs Gt Gu Gv Gw Gx Gy Gz Ka Kb h
  simp only [L0] at h
  refine hr_inLoop (qQ rfl (qQ rfl (qR rfl rfl (qS 7 rfl (oM · rfl) (qS 8 rfl (oM · rfl) (qS 9 rfl (oB · rfl rfl rfl) (rE ?_)))))))
  try dsimp only [w0,w1,w2,w3]
  rcases ifc h with ⟨hc1,h⟩ | ⟨hc1,h⟩
  ·refine q_cond_t rfl (.tmp rfl) (decide_eq_true hc1) (q_skipc rfl (qQ rfl (q_block rfl ?_)))
   refine x_start (cls := [0,0,0,0,0,0,1,1,0,0,1,1,1,2,1,2]) (rk := [0,1,12,13,2,3,4,5,6,7,8,9,10,11,14,15]) rfl (by kernel_rfl) ?_
   refine yf 14 [0] rfl (oM · rfl) ?_
   refine yf 15 [2] rfl (oM · rfl) ?_
   refine yf 16 [0] rfl (oM · rfl) ?_
   refine yf 17 [3] rfl (oM · rfl) ?_
   try dsimp only [w0,w1,w2,w3]
   refine yf 18 [0] rfl (oM · rfl) ?_
   refine yf 19 [3] rfl (oM · rfl) ?_
   obtain ⟨p2,hp2,h⟩ := bindo h
   refine yr 20 [18,19] rfl (oX (s := y0) · tu84 sz44 rfl rfl hp2) ?_
   obtain ⟨p3,hp3,h⟩ := bindo h
   obtain ⟨p4,hp4,h⟩ := bindo h
   obtain ⟨p5,hp5,h⟩ := bindo h
   refine yr 21 [20] rfl (ok_load_a (vs := [(.int .i64 p3),(.bool p4),(.bool p5)]) · ia44 (.tmp rfl) rfl ⟨ldI_out hp3,ldB_out hp4,ldB_out hp5,trivial⟩ (by simp)) ?_
   try dsimp only [w0,w1,w2,w3]
   refine yf 22 [0] rfl (oM · rfl) ?_
   refine yf 23 [2] rfl (oM · rfl) ?_
   obtain ⟨p6,hp6,h⟩ := bindo h
   refine yr 24 [22,23] rfl (oX (s := y0) · tu84 sz44 rfl rfl hp6) ?_
   obtain ⟨p7,hp7,h⟩ := bindo h
   obtain ⟨p8,hp8,h⟩ := bindo h
   obtain ⟨p9,hp9,h⟩ := bindo h
   refine yr 25 [24] rfl (ok_load_a (vs := [(.int .i64 p7),(.bool p8),(.bool p9)]) · ia44 (.tmp rfl) rfl ⟨ldI_out hp7,ldB_out hp8,ldB_out hp9,trivial⟩ (by simp)) ?_
   try dsimp only [w0,w1,w2,w3]
   obtain ⟨p10,hp10,h⟩ := bindo h
   refine yr 26 [14,15] rfl (oX (s := y0) · tu84 sz44 rfl rfl hp10) ?_
   obtain ⟨p11,hp11,h⟩ := bindo h
   refine x_go (e_op (dst := none) (ts := [26,21]) rfl (by intro _ _ h; cases h) (by kernel_rfl) (fun _ ho => ok_store_s (v := (.agg [(.int .i64 p3),(.bool p4),(.bool p5)])) ho sz44 (.tmp rfl) rfl (.tmp rfl) rfl hp11)) rfl ?_
   obtain ⟨p12,hp12,h⟩ := bindo h
   refine yr 27 [16,17] rfl (oX (s := y0) · tu84 sz44 rfl rfl hp12) ?_
   obtain ⟨p13,hp13,h⟩ := bindo h
   refine x_go (e_op (dst := none) (ts := [27,25]) rfl (by intro _ _ h; cases h) (by kernel_rfl) (fun _ ho => ok_store_s (v := (.agg [(.int .i64 p7),(.bool p8),(.bool p9)])) ho sz44 (.tmp rfl) rfl (.tmp rfl) rfl hp13)) rfl ?_
   refine x_rest rfl ?_
   refine rE ?_
   try dsimp only [w0,w1,w2,w3]
   refine hr_inBlock (qR rfl rfl (qS 10 rfl (oM · rfl) (qS 11 rfl (oC · rfl rfl) (qS 12 rfl (oM · rfl) (qS 13 rfl (oC · rfl rfl) ?_)))))
   try dsimp only [w0,w1,w2,w3]
   refine qS 2 rfl (oA · rfl) (qS 3 rfl (oA · rfl) (rE ?_))
   try dsimp only [w0,w1,w2,w3]
   try dsimp only [w0,w1,w2,w3]
   exact ih h
  ·cases h
   exact q_cond_f rfl (.tmp rfl) (decide_eq_false hc1) (q_exit rfl rfl (q_end at_.at_ rfl (res0 rfl) ⟨rfl,rfl⟩))
def f (k : Nat) (x0 : Sl) (S : HS) : Option ((Unit) × HS) :=
 L0 k k x0 0 (w64 ((Sl.len x0 : Int) - 1)) S
theorem snd {k : Nat} {x0 : Sl} {S : HS}  {p : (Unit) × HS} (h : f k x0 S = some p) : HCall Tryz.prog base W0 β0 515 [(Sl.hv x0)] S (fun v S1 => v = (.tup []) ∧ S1 = p.2) := by
 unfold f at h
 refine HCall.of_run at_.at_ body ?_
 show HRun Tryz.prog base W0 β0 515 none [.code c0] ⟨[(Sl.hv x0),τ,τ,τ,τ,τ,τ,τ,τ,τ,τ,τ,τ,τ,τ,τ,τ,τ,τ,τ,τ,τ,τ,τ,τ,τ,τ,τ],[]⟩ S _
 refine qQ rfl (qR rfl rfl (qS 4 rfl (oM · rfl) (qS 5 rfl (ok_len_sl (q := Sl.a x0) (n := Sl.len x0) (z := Sl.cap x0) · rfl tu84 (.tmp rfl)) (qS 6 rfl (oC · rfl rfl) (qS 2 rfl (ok_assign · (.int _ _)) ?_)))))
 try dsimp only [w0,w1,w2,w3]
 refine qS 3 rfl (oA · rfl) (rE ?_)
 try dsimp only [w0,w1,w2,w3]
 refine q_block rfl (q_loop rfl ?_)
 try dsimp only [w0,w1,w2,w3]
 exact L0_snd  h
end
end slices_Reverse_api_Member_api_Member
namespace slices_rotateLeft_api_Member
theorem at_ : FnAt Tryz.prog 504 Tryz.f504 := ⟨Tryz.func504,by kernel_rfl⟩
noncomputable def d0 := (Tryz.f504.body).getD .skip
noncomputable def r1 := kR (kA d0)
noncomputable def r3 := kR (kA (kB d0))
noncomputable def r4 := kR (kB (kB d0))
noncomputable def c0 : Code := .seq (.region 0 r1 false) (.seq (.region 1 r3 false) (.region 2 r4 false))
theorem body : Tryz.f504.body = some c0 := by kernel_rfl
section
variable {base : Nat} {W0 : Env} {β0 : Bt}
def f (k : Nat) (x0 : Sl) (x1 : Int) (S : HS) : Option ((Unit) × HS) :=
 (Option.bind (HS.cut S x0 0 x1 3) fun p1 =>
 (Option.bind (slices_Reverse_api_Member_api_Member.f k p1 S) fun p2 =>
 (Option.bind (HS.cut p2.2 x0 x1 (Sl.len x0 : Int) 3) fun p3 =>
 (Option.bind (slices_Reverse_api_Member_api_Member.f k p3 p2.2) fun p4 =>
 (Option.bind (slices_Reverse_api_Member_api_Member.f k x0 p4.2) fun p5 =>
 some ((),p5.2))))))
theorem snd {k : Nat} {x0 : Sl} {x1 : Int} {S : HS}  {p : (Unit) × HS} (h : f k x0 x1 S = some p) : HCall Tryz.prog base W0 β0 504 [(Sl.hv x0),(.int .i64 x1)] S (fun v S1 => v = (.tup []) ∧ S1 = p.2) := by
 unfold f at h
 refine HCall.of_run at_.at_ body ?_
 show HRun Tryz.prog base W0 β0 504 none [.code c0] ⟨[(Sl.hv x0),(.int .i64 x1),τ,τ,τ,τ,τ,τ,τ,τ,τ,τ,τ,τ],[]⟩ S _
 obtain ⟨p1,hp1,h⟩ := bindo h
 obtain ⟨p2,hp2,h⟩ := bindo h
 refine qQ rfl (qR rfl rfl (qS 4 rfl (oM · rfl) (qS 5 rfl (oM · rfl) (qS 6 rfl (ok_slice (kl := .i64) (kh := .i64) (s := x0) (l := 0) (h := x1) · tu84 si44 (.tmp rfl) (.inl ⟨rfl,rfl⟩) (.inr ⟨_,rfl,(.tmp rfl)⟩) hp1) (q_call (dst := some 7) rfl (.func _) (.cons (.tmp rfl) Evs.nil) (HInv.static slices_Reverse_api_Member_api_Member.at_ slices_Reverse_api_Member_api_Member.body (slices_Reverse_api_Member_api_Member.snd  hp2)) ?_)))))
 rintro _ _ ⟨rfl,rfl⟩
 refine rE ?_
 try dsimp only [w0,w1,w2,w3]
 obtain ⟨p3,hp3,h⟩ := bindo h
 obtain ⟨p4,hp4,h⟩ := bindo h
 refine qQ rfl (qR rfl rfl (qS 8 rfl (oM · rfl) (qS 9 rfl (oM · rfl) (qS 10 rfl (ok_slice (kl := .i64) (kh := .i64) (s := x0) (l := x1) (h := (Sl.len x0 : Int)) · tu84 si44 (.tmp rfl) (.inr ⟨_,rfl,(.tmp rfl)⟩) (.inl ⟨rfl,rfl⟩) hp3) (q_call (dst := some 11) rfl (.func _) (.cons (.tmp rfl) Evs.nil) (HInv.static slices_Reverse_api_Member_api_Member.at_ slices_Reverse_api_Member_api_Member.body (slices_Reverse_api_Member_api_Member.snd  hp4)) ?_)))))
 rintro _ _ ⟨rfl,rfl⟩
 refine rE ?_
 try dsimp only [w0,w1,w2,w3]
 obtain ⟨p5,hp5,h⟩ := bindo h
 refine qR rfl rfl (qS 12 rfl (oM · rfl) (q_call (dst := some 13) rfl (.func _) (.cons (.tmp rfl) Evs.nil) (HInv.static slices_Reverse_api_Member_api_Member.at_ slices_Reverse_api_Member_api_Member.body (slices_Reverse_api_Member_api_Member.snd  hp5)) ?_))
 rintro _ _ ⟨rfl,rfl⟩
 refine rE ?_
 try dsimp only [w0,w1,w2,w3]
 cases h
 exact q_end at_.at_ rfl (res0 rfl) ⟨rfl,rfl⟩
end
end slices_rotateLeft_api_Member
namespace slices_rotateRight_api_Member
theorem at_ : FnAt Tryz.prog 487 Tryz.f487 := ⟨Tryz.func487,by kernel_rfl⟩
noncomputable def d0 := (Tryz.f487.body).getD .skip
noncomputable def r0 := kR d0
noncomputable def c0 : Code := .region 0 r0 false
theorem body : Tryz.f487.body = some c0 := by kernel_rfl
section
variable {base : Nat} {W0 : Env} {β0 : Bt}
def f (k : Nat) (x0 : Sl) (x1 : Int) (S : HS) : Option ((Unit) × HS) :=
 (Option.bind (slices_rotateLeft_api_Member.f k x0 (w64 ((Sl.len x0 : Int) - x1)) S) fun p1 =>
 some ((),p1.2))
theorem snd {k : Nat} {x0 : Sl} {x1 : Int} {S : HS}  {p : (Unit) × HS} (h : f k x0 x1 S = some p) : HCall Tryz.prog base W0 β0 487 [(Sl.hv x0),(.int .i64 x1)] S (fun v S1 => v = (.tup []) ∧ S1 = p.2) := by
 unfold f at h
 refine HCall.of_run at_.at_ body ?_
 show HRun Tryz.prog base W0 β0 487 none [.code c0] ⟨[(Sl.hv x0),(.int .i64 x1),τ,τ,τ,τ,τ,τ,τ,τ],[]⟩ S _
 refine qR rfl rfl (qS 4 rfl (oM · rfl) (qS 5 rfl (oM · rfl) (qS 6 rfl (ok_len_sl (q := Sl.a x0) (n := Sl.len x0) (z := Sl.cap x0) · rfl tu84 (.tmp rfl)) (qS 7 rfl (oM · rfl) ?_))))
 try dsimp only [w0,w1,w2,w3]
 obtain ⟨p1,hp1,h⟩ := bindo h
 refine qS 8 rfl (oB · rfl rfl rfl) (q_call (dst := some 9) rfl (.func _) (.cons (.tmp rfl) (.cons (.tmp rfl) Evs.nil)) (HInv.static slices_rotateLeft_api_Member.at_ slices_rotateLeft_api_Member.body (slices_rotateLeft_api_Member.snd  hp1)) ?_)
 rintro _ _ ⟨rfl,rfl⟩
 refine rE ?_
 try dsimp only [w0,w1,w2,w3]
 cases h
 exact q_end at_.at_ rfl (res0 rfl) ⟨rfl,rfl⟩
end
end slices_rotateRight_api_Member
namespace slices_Insert_api_Member_api_Member
theorem at_ : FnAt Tryz.prog 451 Tryz.f451 := ⟨Tryz.func451,by kernel_rfl⟩
noncomputable def d0 := (Tryz.f451.body).getD .skip
noncomputable def r1 := kR (kA d0)
noncomputable def r3 := kR (kA (kB d0))
noncomputable def r5 := kR (kA (kB (kB d0)))
noncomputable def d6 := kB (kB (kB d0))
noncomputable def r8 := kR (kA (kA d6))
noncomputable def r11 := kR (kA (kA (kB (kA d6))))
noncomputable def r15 := kR (kA (kB d6))
noncomputable def r18 := kR (kA (kA (kB (kB d6))))
noncomputable def r21 := kR (kA (kA (kB (kA (kB (kB d6))))))
noncomputable def d24 := kB (kB (kB d6))
noncomputable def r26 := kR (kA (kA d24))
noncomputable def d28 := kA (kB (kA d24))
noncomputable def r29 := kR (kA d28)
noncomputable def r31 := kR (kA (kB d28))
noncomputable def r33 := kR (kA (kB (kB d28)))
noncomputable def r35 := kR (kA (kB (kB (kB d28))))
noncomputable def r39 := kR (kA (kB d24))
noncomputable def d41 := kA (kB (kB d24))
noncomputable def r42 := kR (kA d41)
noncomputable def r45 := kR (kA (kA (kB d41)))
noncomputable def r47 := kR (kA (kB (kA (kB d41))))
noncomputable def r49 := kR (kA (kB (kB (kA (kB d41)))))
noncomputable def r53 := kR (kA (kB (kB (kB d24))))
noncomputable def r55 := kR (kA (kB (kB (kB (kB d24)))))
noncomputable def r57 := kR (kA (kB (kB (kB (kB (kB d24))))))
noncomputable def c0 : Code := .seq (.region 0 r1 false) (.seq (.region 1 r3 false) (.seq (.region 2 r5 false) (.seq (.seq (.region 3 r8 false) (.cond (.tmp 16) (.seq (.region 4 r11 false) .ret) .skip)) (.seq (.region 5 r15 false) (.seq (.seq (.region 6 r18 false) (.cond (.tmp 22) (.seq (.region 7 r21 false) .ret) .skip)) (.seq (.seq (.region 8 r26 false) (.cond (.tmp 31) (.seq (.region 9 r29 false) (.seq (.region 10 r31 false) (.seq (.region 11 r33 true) (.seq (.region 12 r35 false) .ret)))) .skip)) (.seq (.region 13 r39 false) (.seq (.seq (.region 14 r42 false) (.cond (.tmp 68) (.seq (.region 15 r45 true) (.seq (.region 16 r47 false) (.seq (.region 17 r49 false) .ret))) .skip)) (.seq (.region 18 r53 false) (.seq (.region 19 r55 false) (.seq (.region 20 r57 false) .ret)))))))))))
theorem body : Tryz.f451.body = some c0 := by kernel_rfl
section
variable {base : Nat} {W0 : Env} {β0 : Bt}
def f (k : Nat) (x0 : Sl) (x1 : Int) (x2 : Sl) (S : HS) : Option ((Sl) × HS) :=
 (Option.bind (HS.cut S x0 x1 (Sl.len x0 : Int) 3) fun p1 =>
 (if (Sl.len x2 : Int) = 0 then
 some (x0,S) else
 (if x1 = (Sl.len x0 : Int) then
 (Option.bind (HS.rows S x2 3) fun p4 =>
 (Option.bind (HS.app S x0 p4 3) fun p5 =>
 some ((p5.1),(p5.2)))) else
 (Option.bind (Sl.capOf x0) fun p6 =>
 (if (w64 ((Sl.len x0 : Int) + (Sl.len x2 : Int))) > p6 then
 (Option.bind (HS.cut S x0 0 x1 3) fun p8 =>
 (Option.bind (HS.appZ S p8 (w64 ((w64 ((Sl.len x0 : Int) + (Sl.len x2 : Int))) - x1)) [(.int .i64 0),(.bool false),(.bool false)] 3) fun p9 =>
 (Option.bind (HS.cut (p9.2) (p9.1) x1 (Sl.len (p9.1) : Int) 3) fun p10 =>
 (Option.bind (HS.rows (p9.2) x2 3) fun p11 =>
 (Option.bind (HS.over (p9.2) p10 (List.take (Sl.len p10) p11) 3) fun p12 =>
 (Option.bind (HS.cut p12 (p9.1) (w64 (x1 + (Sl.len x2 : Int))) (Sl.len (p9.1) : Int) 3) fun p13 =>
 (Option.bind (HS.cut p12 x0 x1 (Sl.len x0 : Int) 3) fun p14 =>
 (Option.bind (HS.rows p12 p14 3) fun p15 =>
 (Option.bind (HS.over p12 p13 (List.take (Sl.len p13) p15) 3) fun p16 =>
 some ((p9.1),p16)))))))))) else
 (Option.bind (HS.cut S x0 0 (w64 ((Sl.len x0 : Int) + (Sl.len x2 : Int))) 3) fun p17 =>
 (Option.bind (HS.cut S p17 (w64 (x1 + (Sl.len x2 : Int))) (Sl.len p17 : Int) 3) fun p18 =>
 (Option.bind (HS.ovl S x2 p18) fun p19 =>
 (if (!p19) = true then
 (Option.bind (HS.cut S p17 (w64 (x1 + (Sl.len x2 : Int))) (Sl.len p17 : Int) 3) fun p21 =>
 (Option.bind (HS.cut S p17 x1 (Sl.len p17 : Int) 3) fun p22 =>
 (Option.bind (HS.rows S p22 3) fun p23 =>
 (Option.bind (HS.over S p21 (List.take (Sl.len p21) p23) 3) fun p24 =>
 (Option.bind (HS.cut p24 p17 x1 (Sl.len p17 : Int) 3) fun p25 =>
 (Option.bind (HS.rows p24 x2 3) fun p26 =>
 (Option.bind (HS.over p24 p25 (List.take (Sl.len p25) p26) 3) fun p27 =>
 some (p17,p27)))))))) else
 (Option.bind (HS.cut S p17 (Sl.len x0 : Int) (Sl.len p17 : Int) 3) fun p28 =>
 (Option.bind (HS.rows S x2 3) fun p29 =>
 (Option.bind (HS.over S p28 (List.take (Sl.len p28) p29) 3) fun p30 =>
 (Option.bind (HS.cut p30 p17 x1 (Sl.len p17 : Int) 3) fun p31 =>
 (Option.bind (slices_rotateRight_api_Member.f k p31 (Sl.len x2 : Int) p30) fun p32 =>
 some (p17,p32.2)))))))))))))))
theorem snd {k : Nat} {x0 : Sl} {x1 : Int} {x2 : Sl} {S : HS}  {p : (Sl) × HS} (h : f k x0 x1 x2 S = some p) : HCall Tryz.prog base W0 β0 451 [(Sl.hv x0),(.int .i64 x1),(Sl.hv x2)] S (fun v S1 => v = (Sl.hv p.1) ∧ S1 = p.2) := by
 unfold f at h
 refine HCall.of_run at_.at_ body ?_
 show HRun Tryz.prog base W0 β0 451 none [.code c0] ⟨[(Sl.hv x0),(.int .i64 x1),(Sl.hv x2),τ,τ,τ,τ,τ,τ,τ,τ,τ,τ,τ,τ,τ,τ,τ,τ,τ,τ,τ,τ,τ,τ,τ,τ,τ,τ,τ,τ,τ,τ,τ,τ,τ,τ,τ,τ,τ,τ,τ,τ,τ,τ,τ,τ,τ,τ,τ,τ,τ,τ,τ,τ,τ,τ,τ,τ,τ,τ,τ,τ,τ,τ,τ,τ,τ,τ,τ,τ,τ,τ,τ,τ,τ,τ,τ,τ,τ,τ,τ,τ,τ,τ,τ,τ,τ,τ,τ,τ,τ,τ,τ,τ],[]⟩ S _
 refine qQ rfl (qR rfl rfl (qS 6 rfl (ok_assign · (.const fun _ => .slNil none)) (rE ?_)))
 try dsimp only [w0,w1,w2,w3]
 obtain ⟨p1,hp1,h⟩ := bindo h
 refine qQ rfl (qR rfl rfl (qS 10 rfl (oM · rfl) (qS 11 rfl (oM · rfl) (qS 12 rfl (ok_slice (kl := .i64) (kh := .i64) (s := x0) (l := x1) (h := (Sl.len x0 : Int)) · tu84 si44 (.tmp rfl) (.inr ⟨_,rfl,(.tmp rfl)⟩) (.inl ⟨rfl,rfl⟩) hp1) (rE ?_)))))
 try dsimp only [w0,w1,w2,w3]
 refine qQ rfl (qR rfl rfl (qS 13 rfl (oM · rfl) (qS 14 rfl (ok_len_sl (q := Sl.a x2) (n := Sl.len x2) (z := Sl.cap x2) · rfl tu84 (.tmp rfl)) (qS 7 rfl (oA · rfl) (rE ?_)))))
 try dsimp only [w0,w1,w2,w3]
 refine qQ rfl (qQ rfl (qR rfl rfl (qS 15 rfl (oM · rfl) (qS 16 rfl (oC · rfl rfl) (rE ?_)))))
 try dsimp only [w0,w1,w2,w3]
 rcases ifc h with ⟨hc2,h⟩ | ⟨hc2,h⟩
 ·refine q_cond_t rfl (.tmp rfl) (decide_eq_true hc2) (qQ rfl (qR rfl rfl (qS 17 rfl (oM · rfl) (qS 6 rfl (oA · rfl) (rE ?_)))))
  try dsimp only [w0,w1,w2,w3]
  cases h
  exact q_ret rfl at_.at_ rfl (res1 rfl rfl) ⟨rfl,rfl⟩
 ·refine q_cond_f rfl (.tmp rfl) (decide_eq_false hc2) (q_skipc rfl (qQ rfl (qR rfl rfl (qS 18 rfl (oM · rfl) (qS 19 rfl (ok_len_sl (q := Sl.a x0) (n := Sl.len x0) (z := Sl.cap x0) · rfl tu84 (.tmp rfl)) (qS 8 rfl (oA · rfl) (rE ?_)))))))
  try dsimp only [w0,w1,w2,w3]
  refine qQ rfl (qQ rfl (qR rfl rfl (qS 20 rfl (oM · rfl) (qS 21 rfl (oM · rfl) (qS 22 rfl (oB · rfl rfl rfl) (rE ?_))))))
  try dsimp only [w0,w1,w2,w3]
  rcases ifc h with ⟨hc3,h⟩ | ⟨hc3,h⟩
  ·obtain ⟨p4,hp4,h⟩ := bindo h
   obtain ⟨p5,hp5,h⟩ := bindo h
   refine q_cond_t rfl (.tmp rfl) (decide_eq_true hc3) (qQ rfl (qR rfl rfl (qS 23 rfl (oM · rfl) (qS 24 rfl (oM · rfl) (qS 25 rfl (ok_append (s := x0) (s1 := x2) el84 · rfl rfl ⟨_,tu84⟩ (.tmp rfl) (.tmp rfl) hp4 hp5) (qS 6 rfl (oA · rfl) (rE ?_)))))))
   try dsimp only [w0,w1,w2,w3]
   cases h
   exact q_ret rfl at_.at_ rfl (res1 rfl rfl) ⟨rfl,rfl⟩
  ·refine q_cond_f rfl (.tmp rfl) (decide_eq_false hc3) (q_skipc rfl (qQ rfl (qQ rfl (qR rfl rfl (qS 26 rfl (oM · rfl) (qS 27 rfl (oM · rfl) (qS 28 rfl (oB · rfl rfl rfl) (qS 29 rfl (oM · rfl) ?_))))))))
   try dsimp only [w0,w1,w2,w3]
   obtain ⟨p6,hp6,h⟩ := bindo h
   refine qS 30 rfl (ok_cap (s := x0) · rfl tu84 (.tmp rfl) hp6) (qS 31 rfl (oB · rfl rfl rfl) (rE ?_))
   try dsimp only [w0,w1,w2,w3]
   rcases ifc h with ⟨hc7,h⟩ | ⟨hc7,h⟩
   ·obtain ⟨p8,hp8,h⟩ := bindo h
    refine q_cond_t rfl (.tmp rfl) (decide_eq_true hc7) (qQ rfl (qR rfl rfl (qS 32 rfl (oM · rfl) (qS 33 rfl (oM · rfl) (qS 34 rfl (ok_slice (kl := .i64) (kh := .i64) (s := x0) (l := 0) (h := x1) · tu84 si44 (.tmp rfl) (.inl ⟨rfl,rfl⟩) (.inr ⟨_,rfl,(.tmp rfl)⟩) hp8) (qS 35 rfl (oM · rfl) ?_))))))
    try dsimp only [w0,w1,w2,w3]
    refine qS 36 rfl (oM · rfl) (qS 37 rfl (oB · rfl rfl rfl) (qS 38 rfl (oM · rfl) (qS 39 rfl (oB · rfl rfl rfl) ?_)))
    try dsimp only [w0,w1,w2,w3]
    obtain ⟨p9,hp9,h⟩ := bindo h
    refine qS 40 rfl (ok_append_zeros (s := p8) el84 · rfl rfl tu3 (.tmp rfl) (.tmp rfl) hp9) (qS 9 rfl (oA · rfl) (rE ?_))
    try dsimp only [w0,w1,w2,w3]
    obtain ⟨p10,hp10,h⟩ := bindo h
    refine qQ rfl (qR rfl rfl (qS 41 rfl (oM · rfl) (qS 42 rfl (oM · rfl) (qS 43 rfl (ok_slice (kl := .i64) (kh := .i64) (s := (p9.1)) (l := x1) (h := (Sl.len (p9.1) : Int)) · tu84 si44 (.tmp rfl) (.inr ⟨_,rfl,(.tmp rfl)⟩) (.inl ⟨rfl,rfl⟩) hp10) (qS 44 rfl (oM · rfl) ?_)))))
    try dsimp only [w0,w1,w2,w3]
    obtain ⟨p11,hp11,h⟩ := bindo h
    obtain ⟨p12,hp12,h⟩ := bindo h
    refine qS 45 rfl (ok_copy (s := p10) (s1 := x2) el84 · rfl (.tmp rfl) (.tmp rfl) hp11 hp12) (rE ?_)
    try dsimp only [w0,w1,w2,w3]
    refine qQ rfl ?_
    refine x_start (cls := [0,0,0,0,1,0,0,1,2]) (rk := [0,1,2,3,4,5,6,7,8]) rfl (by kernel_rfl) ?_
    refine yf 46 [9] rfl (oM · rfl) ?_
    refine yf 47 [1] rfl (oM · rfl) ?_
    refine yf 48 [7] rfl (oM · rfl) ?_
    refine yf 49 [47,48] rfl (oB · rfl rfl rfl) ?_
    try dsimp only [w0,w1,w2,w3]
    obtain ⟨p13,hp13,h⟩ := bindo h
    refine yr 50 [46,49] rfl (ok_slice (kl := .i64) (kh := .i64) (s := (p9.1)) (l := (w64 (x1 + (Sl.len x2 : Int)))) (h := (Sl.len (p9.1) : Int)) · tu84 si44 (.tmp rfl) (.inr ⟨_,rfl,(.tmp rfl)⟩) (.inl ⟨rfl,rfl⟩) hp13) ?_
    refine yf 51 [0] rfl (oM · rfl) ?_
    refine yf 52 [1] rfl (oM · rfl) ?_
    obtain ⟨p14,hp14,h⟩ := bindo h
    refine yr 53 [51,52] rfl (ok_slice (kl := .i64) (kh := .i64) (s := x0) (l := x1) (h := (Sl.len x0 : Int)) · tu84 si44 (.tmp rfl) (.inr ⟨_,rfl,(.tmp rfl)⟩) (.inl ⟨rfl,rfl⟩) hp14) ?_
    try dsimp only [w0,w1,w2,w3]
    obtain ⟨p15,hp15,h⟩ := bindo h
    obtain ⟨p16,hp16,h⟩ := bindo h
    refine ye 54 [50,53] rfl (ok_copy (s := p13) (s1 := p14) el84 · rfl (.tmp rfl) (.tmp rfl) hp15 hp16) ?_
    refine x_rest rfl ?_
    refine rE ?_
    try dsimp only [w0,w1,w2,w3]
    refine qQ rfl (qR rfl rfl (qS 55 rfl (oM · rfl) (qS 6 rfl (oA · rfl) (rE ?_))))
    try dsimp only [w0,w1,w2,w3]
    cases h
    exact q_ret rfl at_.at_ rfl (res1 rfl rfl) ⟨rfl,rfl⟩
   ·refine q_cond_f rfl (.tmp rfl) (decide_eq_false hc7) (q_skipc rfl (qQ rfl (qR rfl rfl (qS 56 rfl (oM · rfl) (qS 57 rfl (oM · rfl) (qS 58 rfl (oM · rfl) (qS 59 rfl (oB · rfl rfl rfl) ?_)))))))
    try dsimp only [w0,w1,w2,w3]
    obtain ⟨p17,hp17,h⟩ := bindo h
    refine qS 60 rfl (ok_slice (kl := .i64) (kh := .i64) (s := x0) (l := 0) (h := (w64 ((Sl.len x0 : Int) + (Sl.len x2 : Int)))) · tu84 si44 (.tmp rfl) (.inl ⟨rfl,rfl⟩) (.inr ⟨_,rfl,(.tmp rfl)⟩) hp17) (qS 0 rfl (oA · rfl) (rE ?_))
    try dsimp only [w0,w1,w2,w3]
    refine qQ rfl (qQ rfl (qR rfl rfl (qS 61 rfl (oM · rfl) (qS 62 rfl (oM · rfl) (qS 63 rfl (oM · rfl) (qS 64 rfl (oM · rfl) ?_))))))
    try dsimp only [w0,w1,w2,w3]
    obtain ⟨p18,hp18,h⟩ := bindo h
    obtain ⟨p19,hp19,h⟩ := bindo h
    refine qS 65 rfl (oB · rfl rfl rfl) (qS 66 rfl (ok_slice (kl := .i64) (kh := .i64) (s := p17) (l := (w64 (x1 + (Sl.len x2 : Int)))) (h := (Sl.len p17 : Int)) · tu84 si44 (.tmp rfl) (.inr ⟨_,rfl,(.tmp rfl)⟩) (.inl ⟨rfl,rfl⟩) hp18) (qS 67 rfl (ok_overlaps (s1 := x2) (s2 := p18) · ext486 tu84 si44 (.tmp rfl) (.tmp rfl) hp19) (qS 68 rfl (ok_not · (.tmp rfl)) (rE ?_))))
    try dsimp only [w0,w1,w2,w3]
    rcases ifc h with ⟨hc20,h⟩ | ⟨hc20,h⟩
    ·refine q_cond_t rfl (.tmp rfl) hc20 (qQ rfl ?_)
     refine x_start (cls := [0,0,0,0,1,0,0,1,2]) (rk := [0,1,2,3,4,5,6,7,8]) rfl (by kernel_rfl) ?_
     refine yf 69 [0] rfl (oM · rfl) ?_
     refine yf 70 [1] rfl (oM · rfl) ?_
     refine yf 71 [7] rfl (oM · rfl) ?_
     refine yf 72 [70,71] rfl (oB · rfl rfl rfl) ?_
     try dsimp only [w0,w1,w2,w3]
     obtain ⟨p21,hp21,h⟩ := bindo h
     refine yr 73 [69,72] rfl (ok_slice (kl := .i64) (kh := .i64) (s := p17) (l := (w64 (x1 + (Sl.len x2 : Int)))) (h := (Sl.len p17 : Int)) · tu84 si44 (.tmp rfl) (.inr ⟨_,rfl,(.tmp rfl)⟩) (.inl ⟨rfl,rfl⟩) hp21) ?_
     refine yf 74 [0] rfl (oM · rfl) ?_
     refine yf 75 [1] rfl (oM · rfl) ?_
     obtain ⟨p22,hp22,h⟩ := bindo h
     refine yr 76 [74,75] rfl (ok_slice (kl := .i64) (kh := .i64) (s := p17) (l := x1) (h := (Sl.len p17 : Int)) · tu84 si44 (.tmp rfl) (.inr ⟨_,rfl,(.tmp rfl)⟩) (.inl ⟨rfl,rfl⟩) hp22) ?_
     try dsimp only [w0,w1,w2,w3]
     obtain ⟨p23,hp23,h⟩ := bindo h
     obtain ⟨p24,hp24,h⟩ := bindo h
     refine ye 77 [73,76] rfl (ok_copy (s := p21) (s1 := p22) el84 · rfl (.tmp rfl) (.tmp rfl) hp23 hp24) ?_
     refine x_rest rfl ?_
     refine rE ?_
     try dsimp only [w0,w1,w2,w3]
     obtain ⟨p25,hp25,h⟩ := bindo h
     refine qQ rfl (qR rfl rfl (qS 78 rfl (oM · rfl) (qS 79 rfl (oM · rfl) (qS 80 rfl (ok_slice (kl := .i64) (kh := .i64) (s := p17) (l := x1) (h := (Sl.len p17 : Int)) · tu84 si44 (.tmp rfl) (.inr ⟨_,rfl,(.tmp rfl)⟩) (.inl ⟨rfl,rfl⟩) hp25) (qS 81 rfl (oM · rfl) ?_)))))
     try dsimp only [w0,w1,w2,w3]
     obtain ⟨p26,hp26,h⟩ := bindo h
     obtain ⟨p27,hp27,h⟩ := bindo h
     refine qS 82 rfl (ok_copy (s := p25) (s1 := x2) el84 · rfl (.tmp rfl) (.tmp rfl) hp26 hp27) (rE ?_)
     try dsimp only [w0,w1,w2,w3]
     refine qQ rfl (qR rfl rfl (qS 83 rfl (oM · rfl) (qS 6 rfl (oA · rfl) (rE ?_))))
     try dsimp only [w0,w1,w2,w3]
     cases h
     exact q_ret rfl at_.at_ rfl (res1 rfl rfl) ⟨rfl,rfl⟩
    ·obtain ⟨p28,hp28,h⟩ := bindo h
     refine q_cond_f rfl (.tmp rfl) (bfalse hc20) (q_skipc rfl (qQ rfl (qR rfl rfl (qS 84 rfl (oM · rfl) (qS 85 rfl (oM · rfl) (qS 86 rfl (ok_slice (kl := .i64) (kh := .i64) (s := p17) (l := (Sl.len x0 : Int)) (h := (Sl.len p17 : Int)) · tu84 si44 (.tmp rfl) (.inr ⟨_,rfl,(.tmp rfl)⟩) (.inl ⟨rfl,rfl⟩) hp28) (qS 87 rfl (oM · rfl) ?_)))))))
     try dsimp only [w0,w1,w2,w3]
     obtain ⟨p29,hp29,h⟩ := bindo h
     obtain ⟨p30,hp30,h⟩ := bindo h
     refine qS 88 rfl (ok_copy (s := p28) (s1 := x2) el84 · rfl (.tmp rfl) (.tmp rfl) hp29 hp30) (rE ?_)
     try dsimp only [w0,w1,w2,w3]
     obtain ⟨p31,hp31,h⟩ := bindo h
     refine qQ rfl (qR rfl rfl (qS 89 rfl (oM · rfl) (qS 90 rfl (oM · rfl) (qS 91 rfl (ok_slice (kl := .i64) (kh := .i64) (s := p17) (l := x1) (h := (Sl.len p17 : Int)) · tu84 si44 (.tmp rfl) (.inr ⟨_,rfl,(.tmp rfl)⟩) (.inl ⟨rfl,rfl⟩) hp31) (qS 92 rfl (oM · rfl) ?_)))))
     try dsimp only [w0,w1,w2,w3]
     obtain ⟨p32,hp32,h⟩ := bindo h
     refine q_call (dst := some 93) rfl (.func _) (.cons (.tmp rfl) (.cons (.tmp rfl) Evs.nil)) (HInv.static slices_rotateRight_api_Member.at_ slices_rotateRight_api_Member.body (slices_rotateRight_api_Member.snd  hp32)) ?_
     rintro _ _ ⟨rfl,rfl⟩
     refine rE ?_
     try dsimp only [w0,w1,w2,w3]
     refine qQ rfl (qR rfl rfl (qS 94 rfl (oM · rfl) (qS 6 rfl (oA · rfl) (rE ?_))))
     try dsimp only [w0,w1,w2,w3]
     cases h
     exact q_ret rfl at_.at_ rfl (res1 rfl rfl) ⟨rfl,rfl⟩
end
end slices_Insert_api_Member_api_Member
namespace slices_Insert_api_Member_api_Member_w
theorem at_ : FnAt Tryz.prog 451 Tryz.f451 := slices_Insert_api_Member_api_Member.at_
theorem body : Tryz.f451.body = some slices_Insert_api_Member_api_Member.c0 := slices_Insert_api_Member_api_Member.body
def f (x0 : Sl) (x1 : Int) (x2 : Sl) (S : HS) : Option ((Sl) × HS) := HS.ins S x0 x1 x2 3
theorem snd {base : Nat} {W0 : Env} {β0 : Bt} {x0 : Sl} {x1 : Int} {x2 : Sl} {S : HS} {p : (Sl) × HS} (h : f x0 x1 x2 S = some p) : HCall Tryz.prog base W0 β0 451 [(Sl.hv x0),(.int .i64 x1),(Sl.hv x2)] S (fun v S1 => v = (Sl.hv p.1) ∧ S1 = p.2) :=
 ins_snd (rot := fun a b T => slices_rotateRight_api_Member.f 0 a b T) (zr := [(.int .i64 0),(.bool false),(.bool false)]) (fun _ _ _ h => slices_Insert_api_Member_api_Member.snd (k := 0) h) h
end slices_Insert_api_Member_api_Member_w
namespace slices_Delete_string_string
theorem at_ : FnAt Tryz.prog 470 Tryz.f470 := ⟨Tryz.func470,by kernel_rfl⟩
noncomputable def d0 := (Tryz.f470.body).getD .skip
noncomputable def r1 := kR (kA d0)
noncomputable def r3 := kR (kA (kB d0))
noncomputable def r6 := kR (kA (kA (kB (kB d0))))
noncomputable def r9 := kR (kA (kA (kB (kA (kB (kB d0))))))
noncomputable def d12 := kB (kB (kB d0))
noncomputable def r13 := kR (kA d12)
noncomputable def r15 := kR (kA (kB d12))
noncomputable def r17 := kR (kA (kB (kB d12)))
noncomputable def r19 := kR (kA (kB (kB (kB d12))))
noncomputable def c0 : Code := .seq (.region 0 r1 false) (.seq (.region 1 r3 false) (.seq (.seq (.region 2 r6 false) (.cond (.tmp 16) (.seq (.region 3 r9 false) .ret) .skip)) (.seq (.region 4 r13 false) (.seq (.region 5 r15 true) (.seq (.region 6 r17 false) (.seq (.region 7 r19 false) .ret))))))
theorem body : Tryz.f470.body = some c0 := by kernel_rfl
section
variable {base : Nat} {W0 : Env} {β0 : Bt}
def f (x0 : Sl) (x1 : Int) (x2 : Int) (S : HS) : Option ((Sl) × HS) :=
 (Option.bind (HS.cut3 S x0 x1 x2 (Sl.len x0 : Int) 1) fun p1 =>
 (if x1 = x2 then
 some (x0,S) else
 (Option.bind (HS.cut S x0 0 x1 1) fun p3 =>
 (Option.bind (HS.cut S x0 x2 (Sl.len x0 : Int) 1) fun p4 =>
 (Option.bind (HS.rows S p4 1) fun p5 =>
 (Option.bind (HS.app S p3 p5 1) fun p6 =>
 (Option.bind (HS.cut (p6.2) (p6.1) (Sl.len (p6.1) : Int) (Sl.len x0 : Int) 1) fun p7 =>
 (Option.bind (HS.over (p6.2) p7 (List.replicate (Sl.len p7) [(.str [])]) 1) fun p8 =>
 some ((p6.1),p8)))))))))
theorem snd {x0 : Sl} {x1 : Int} {x2 : Int} {S : HS}  {p : (Sl) × HS} (h : f x0 x1 x2 S = some p) : HCall Tryz.prog base W0 β0 470 [(Sl.hv x0),(.int .i64 x1),(.int .i64 x2)] S (fun v S1 => v = (Sl.hv p.1) ∧ S1 = p.2) := by
 unfold f at h
 refine HCall.of_run at_.at_ body ?_
 show HRun Tryz.prog base W0 β0 470 none [.code c0] ⟨[(Sl.hv x0),(.int .i64 x1),(.int .i64 x2),τ,τ,τ,τ,τ,τ,τ,τ,τ,τ,τ,τ,τ,τ,τ,τ,τ,τ,τ,τ,τ,τ,τ,τ,τ,τ,τ,τ,τ,τ],[]⟩ S _
 refine qQ rfl (qR rfl rfl (qS 6 rfl (ok_assign · (.const fun _ => .slNil none)) (rE ?_)))
 try dsimp only [w0,w1,w2,w3]
 refine qQ rfl (qR rfl rfl (qS 8 rfl (oM · rfl) (qS 9 rfl (oM · rfl) (qS 10 rfl (oM · rfl) (qS 11 rfl (oM · rfl) ?_)))))
 try dsimp only [w0,w1,w2,w3]
 obtain ⟨p1,hp1,h⟩ := bindo h
 refine qS 12 rfl (ok_len_sl (q := Sl.a x0) (n := Sl.len x0) (z := Sl.cap x0) · rfl tu30 (.tmp rfl)) (qS 13 rfl (ok_slice3 (kl := .i64) (kh := .i64) (s := x0) (l := x1) (h := x2) · tu30 si9 (.tmp rfl) (.inr ⟨_,rfl,(.tmp rfl)⟩) (.inr ⟨_,rfl,(.tmp rfl)⟩) (.tmp rfl) hp1) (rE ?_))
 try dsimp only [w0,w1,w2,w3]
 refine qQ rfl (qQ rfl (qR rfl rfl (qS 14 rfl (oM · rfl) (qS 15 rfl (oM · rfl) (qS 16 rfl (oB · rfl rfl rfl) (rE ?_))))))
 try dsimp only [w0,w1,w2,w3]
 rcases ifc h with ⟨hc2,h⟩ | ⟨hc2,h⟩
 ·refine q_cond_t rfl (.tmp rfl) (decide_eq_true hc2) (qQ rfl (qR rfl rfl (qS 17 rfl (oM · rfl) (qS 6 rfl (oA · rfl) (rE ?_)))))
  try dsimp only [w0,w1,w2,w3]
  cases h
  exact q_ret rfl at_.at_ rfl (res1 rfl rfl) ⟨rfl,rfl⟩
 ·refine q_cond_f rfl (.tmp rfl) (decide_eq_false hc2) (q_skipc rfl (qQ rfl (qR rfl rfl (qS 18 rfl (oM · rfl) (qS 19 rfl (ok_len_sl (q := Sl.a x0) (n := Sl.len x0) (z := Sl.cap x0) · rfl tu30 (.tmp rfl)) (qS 7 rfl (oA · rfl) (rE ?_)))))))
  try dsimp only [w0,w1,w2,w3]
  refine qQ rfl ?_
  refine x_start (cls := [0,0,1,0,0,1,2,0]) (rk := [0,1,2,3,4,5,6,7]) rfl (by kernel_rfl) ?_
  refine yf 20 [0] rfl (oM · rfl) ?_
  refine yf 21 [1] rfl (oM · rfl) ?_
  obtain ⟨p3,hp3,h⟩ := bindo h
  refine yr 22 [20,21] rfl (ok_slice (kl := .i64) (kh := .i64) (s := x0) (l := 0) (h := x1) · tu30 si9 (.tmp rfl) (.inl ⟨rfl,rfl⟩) (.inr ⟨_,rfl,(.tmp rfl)⟩) hp3) ?_
  refine yf 23 [0] rfl (oM · rfl) ?_
  try dsimp only [w0,w1,w2,w3]
  refine yf 24 [2] rfl (oM · rfl) ?_
  obtain ⟨p4,hp4,h⟩ := bindo h
  refine yr 25 [23,24] rfl (ok_slice (kl := .i64) (kh := .i64) (s := x0) (l := x2) (h := (Sl.len x0 : Int)) · tu30 si9 (.tmp rfl) (.inr ⟨_,rfl,(.tmp rfl)⟩) (.inl ⟨rfl,rfl⟩) hp4) ?_
  obtain ⟨p5,hp5,h⟩ := bindo h
  obtain ⟨p6,hp6,h⟩ := bindo h
  refine ye 26 [22,25] rfl (ok_append (s := p3) (s1 := p4) el30 · rfl rfl ⟨_,tu30⟩ (.tmp rfl) (.tmp rfl) hp5 hp6) ?_
  refine yf 0 [26] rfl (oA · rfl) ?_
  refine x_rest rfl ?_
  refine rE ?_
  try dsimp only [w0,w1,w2,w3]
  refine qQ rfl (qR rfl rfl (qS 27 rfl (oM · rfl) (qS 28 rfl (oM · rfl) (qS 29 rfl (ok_len_sl (q := Sl.a (p6.1)) (n := Sl.len (p6.1)) (z := Sl.cap (p6.1)) · rfl tu30 (.tmp rfl)) (qS 30 rfl (oM · rfl) ?_)))))
  try dsimp only [w0,w1,w2,w3]
  obtain ⟨p7,hp7,h⟩ := bindo h
  obtain ⟨p8,hp8,h⟩ := bindo h
  refine qS 31 rfl (ok_slice (kl := .i64) (kh := .i64) (s := (p6.1)) (l := (Sl.len (p6.1) : Int)) (h := (Sl.len x0 : Int)) · tu30 si9 (.tmp rfl) (.inr ⟨_,rfl,(.tmp rfl)⟩) (.inr ⟨_,rfl,(.tmp rfl)⟩) hp7) (qN rfl (ok_clear (s := p7) el30 · rfl (.tmp rfl) hp8) (rE ?_))
  try dsimp only [w0,w1,w2,w3]
  refine qQ rfl (qR rfl rfl (qS 32 rfl (oM · rfl) (qS 6 rfl (oA · rfl) (rE ?_))))
  try dsimp only [w0,w1,w2,w3]
  cases h
  exact q_ret rfl at_.at_ rfl (res1 rfl rfl) ⟨rfl,rfl⟩
end
end slices_Delete_string_string
namespace slices_Delete_string_string_w
theorem at_ : FnAt Tryz.prog 470 Tryz.f470 := slices_Delete_string_string.at_
theorem body : Tryz.f470.body = some slices_Delete_string_string.c0 := slices_Delete_string_string.body
def f (x0 : Sl) (x1 : Int) (x2 : Int) (S : HS) : Option ((Sl) × HS) := HS.del S x0 x1 x2 1
theorem snd {base : Nat} {W0 : Env} {β0 : Bt} {x0 : Sl} {x1 x2 : Int} {S : HS} {p : (Sl) × HS} (h : f x0 x1 x2 S = some p) : HCall Tryz.prog base W0 β0 470 [(Sl.hv x0),(.int .i64 x1),(.int .i64 x2)] S (fun v S1 => v = (Sl.hv p.1) ∧ S1 = p.2) :=
 del_snd (zr := [(.str [])]) (fun _ _ _ h => slices_Delete_string_string.snd h) h
end slices_Delete_string_string_w
namespace slices_Delete_int_int
theorem at_ : FnAt Tryz.prog 471 Tryz.f471 := ⟨Tryz.func471,by kernel_rfl⟩
noncomputable def d0 := (Tryz.f471.body).getD .skip
noncomputable def r1 := kR (kA d0)
noncomputable def r3 := kR (kA (kB d0))
noncomputable def r6 := kR (kA (kA (kB (kB d0))))
noncomputable def r9 := kR (kA (kA (kB (kA (kB (kB d0))))))
noncomputable def d12 := kB (kB (kB d0))
noncomputable def r13 := kR (kA d12)
noncomputable def r15 := kR (kA (kB d12))
noncomputable def r17 := kR (kA (kB (kB d12)))
noncomputable def r19 := kR (kA (kB (kB (kB d12))))
noncomputable def c0 : Code := .seq (.region 0 r1 false) (.seq (.region 1 r3 false) (.seq (.seq (.region 2 r6 false) (.cond (.tmp 16) (.seq (.region 3 r9 false) .ret) .skip)) (.seq (.region 4 r13 false) (.seq (.region 5 r15 true) (.seq (.region 6 r17 false) (.seq (.region 7 r19 false) .ret))))))
theorem body : Tryz.f471.body = some c0 := by kernel_rfl
section
variable {base : Nat} {W0 : Env} {β0 : Bt}
def f (x0 : Sl) (x1 : Int) (x2 : Int) (S : HS) : Option ((Sl) × HS) :=
 (Option.bind (HS.cut3 S x0 x1 x2 (Sl.len x0 : Int) 1) fun p1 =>
 (if x1 = x2 then
 some (x0,S) else
 (Option.bind (HS.cut S x0 0 x1 1) fun p3 =>
 (Option.bind (HS.cut S x0 x2 (Sl.len x0 : Int) 1) fun p4 =>
 (Option.bind (HS.rows S p4 1) fun p5 =>
 (Option.bind (HS.app S p3 p5 1) fun p6 =>
 (Option.bind (HS.cut (p6.2) (p6.1) (Sl.len (p6.1) : Int) (Sl.len x0 : Int) 1) fun p7 =>
 (Option.bind (HS.over (p6.2) p7 (List.replicate (Sl.len p7) [(.int .i64 0)]) 1) fun p8 =>
 some ((p6.1),p8)))))))))
theorem snd {x0 : Sl} {x1 : Int} {x2 : Int} {S : HS}  {p : (Sl) × HS} (h : f x0 x1 x2 S = some p) : HCall Tryz.prog base W0 β0 471 [(Sl.hv x0),(.int .i64 x1),(.int .i64 x2)] S (fun v S1 => v = (Sl.hv p.1) ∧ S1 = p.2) := by
 unfold f at h
 refine HCall.of_run at_.at_ body ?_
 show HRun Tryz.prog base W0 β0 471 none [.code c0] ⟨[(Sl.hv x0),(.int .i64 x1),(.int .i64 x2),τ,τ,τ,τ,τ,τ,τ,τ,τ,τ,τ,τ,τ,τ,τ,τ,τ,τ,τ,τ,τ,τ,τ,τ,τ,τ,τ,τ,τ,τ],[]⟩ S _
 refine qQ rfl (qR rfl rfl (qS 6 rfl (ok_assign · (.const fun _ => .slNil none)) (rE ?_)))
 try dsimp only [w0,w1,w2,w3]
 refine qQ rfl (qR rfl rfl (qS 8 rfl (oM · rfl) (qS 9 rfl (oM · rfl) (qS 10 rfl (oM · rfl) (qS 11 rfl (oM · rfl) ?_)))))
 try dsimp only [w0,w1,w2,w3]
 obtain ⟨p1,hp1,h⟩ := bindo h
 refine qS 12 rfl (ok_len_sl (q := Sl.a x0) (n := Sl.len x0) (z := Sl.cap x0) · rfl tu76 (.tmp rfl)) (qS 13 rfl (ok_slice3 (kl := .i64) (kh := .i64) (s := x0) (l := x1) (h := x2) · tu76 si3 (.tmp rfl) (.inr ⟨_,rfl,(.tmp rfl)⟩) (.inr ⟨_,rfl,(.tmp rfl)⟩) (.tmp rfl) hp1) (rE ?_))
 try dsimp only [w0,w1,w2,w3]
 refine qQ rfl (qQ rfl (qR rfl rfl (qS 14 rfl (oM · rfl) (qS 15 rfl (oM · rfl) (qS 16 rfl (oB · rfl rfl rfl) (rE ?_))))))
 try dsimp only [w0,w1,w2,w3]
 rcases ifc h with ⟨hc2,h⟩ | ⟨hc2,h⟩
 ·refine q_cond_t rfl (.tmp rfl) (decide_eq_true hc2) (qQ rfl (qR rfl rfl (qS 17 rfl (oM · rfl) (qS 6 rfl (oA · rfl) (rE ?_)))))
  try dsimp only [w0,w1,w2,w3]
  cases h
  exact q_ret rfl at_.at_ rfl (res1 rfl rfl) ⟨rfl,rfl⟩
 ·refine q_cond_f rfl (.tmp rfl) (decide_eq_false hc2) (q_skipc rfl (qQ rfl (qR rfl rfl (qS 18 rfl (oM · rfl) (qS 19 rfl (ok_len_sl (q := Sl.a x0) (n := Sl.len x0) (z := Sl.cap x0) · rfl tu76 (.tmp rfl)) (qS 7 rfl (oA · rfl) (rE ?_)))))))
  try dsimp only [w0,w1,w2,w3]
  refine qQ rfl ?_
  refine x_start (cls := [0,0,1,0,0,1,2,0]) (rk := [0,1,2,3,4,5,6,7]) rfl (by kernel_rfl) ?_
  refine yf 20 [0] rfl (oM · rfl) ?_
  refine yf 21 [1] rfl (oM · rfl) ?_
  obtain ⟨p3,hp3,h⟩ := bindo h
  refine yr 22 [20,21] rfl (ok_slice (kl := .i64) (kh := .i64) (s := x0) (l := 0) (h := x1) · tu76 si3 (.tmp rfl) (.inl ⟨rfl,rfl⟩) (.inr ⟨_,rfl,(.tmp rfl)⟩) hp3) ?_
  refine yf 23 [0] rfl (oM · rfl) ?_
  try dsimp only [w0,w1,w2,w3]
  refine yf 24 [2] rfl (oM · rfl) ?_
  obtain ⟨p4,hp4,h⟩ := bindo h
  refine yr 25 [23,24] rfl (ok_slice (kl := .i64) (kh := .i64) (s := x0) (l := x2) (h := (Sl.len x0 : Int)) · tu76 si3 (.tmp rfl) (.inr ⟨_,rfl,(.tmp rfl)⟩) (.inl ⟨rfl,rfl⟩) hp4) ?_
  obtain ⟨p5,hp5,h⟩ := bindo h
  obtain ⟨p6,hp6,h⟩ := bindo h
  refine ye 26 [22,25] rfl (ok_append (s := p3) (s1 := p4) el76 · rfl rfl ⟨_,tu76⟩ (.tmp rfl) (.tmp rfl) hp5 hp6) ?_
  refine yf 0 [26] rfl (oA · rfl) ?_
  refine x_rest rfl ?_
  refine rE ?_
  try dsimp only [w0,w1,w2,w3]
  refine qQ rfl (qR rfl rfl (qS 27 rfl (oM · rfl) (qS 28 rfl (oM · rfl) (qS 29 rfl (ok_len_sl (q := Sl.a (p6.1)) (n := Sl.len (p6.1)) (z := Sl.cap (p6.1)) · rfl tu76 (.tmp rfl)) (qS 30 rfl (oM · rfl) ?_)))))
  try dsimp only [w0,w1,w2,w3]
  obtain ⟨p7,hp7,h⟩ := bindo h
  obtain ⟨p8,hp8,h⟩ := bindo h
  refine qS 31 rfl (ok_slice (kl := .i64) (kh := .i64) (s := (p6.1)) (l := (Sl.len (p6.1) : Int)) (h := (Sl.len x0 : Int)) · tu76 si3 (.tmp rfl) (.inr ⟨_,rfl,(.tmp rfl)⟩) (.inr ⟨_,rfl,(.tmp rfl)⟩) hp7) (qN rfl (ok_clear (s := p7) el76 · rfl (.tmp rfl) hp8) (rE ?_))
  try dsimp only [w0,w1,w2,w3]
  refine qQ rfl (qR rfl rfl (qS 32 rfl (oM · rfl) (qS 6 rfl (oA · rfl) (rE ?_))))
  try dsimp only [w0,w1,w2,w3]
  cases h
  exact q_ret rfl at_.at_ rfl (res1 rfl rfl) ⟨rfl,rfl⟩
end
end slices_Delete_int_int
namespace slices_Delete_int_int_w
theorem at_ : FnAt Tryz.prog 471 Tryz.f471 := slices_Delete_int_int.at_
theorem body : Tryz.f471.body = some slices_Delete_int_int.c0 := slices_Delete_int_int.body
def f (x0 : Sl) (x1 : Int) (x2 : Int) (S : HS) : Option ((Sl) × HS) := HS.del S x0 x1 x2 1
theorem snd {base : Nat} {W0 : Env} {β0 : Bt} {x0 : Sl} {x1 x2 : Int} {S : HS} {p : (Sl) × HS} (h : f x0 x1 x2 S = some p) : HCall Tryz.prog base W0 β0 471 [(Sl.hv x0),(.int .i64 x1),(.int .i64 x2)] S (fun v S1 => v = (Sl.hv p.1) ∧ S1 = p.2) :=
 del_snd (zr := [(.int .i64 0)]) (fun _ _ _ h => slices_Delete_int_int.snd h) h
end slices_Delete_int_int_w
namespace slices_Reverse_string_string
theorem at_ : FnAt Tryz.prog 521 Tryz.f521 := ⟨Tryz.func521,by kernel_rfl⟩
noncomputable def d0 := (Tryz.f521.body).getD .skip
noncomputable def r1 := kR (kA d0)
noncomputable def r6 := kR (kA (kA (kA (kA (kB d0)))))
noncomputable def r12 := kR (kA (kA (kB (kA (kA (kB d0))))))
noncomputable def r13 := kR (kB (kB (kA (kA (kB d0)))))
noncomputable def c4 : Code := .seq (.seq (.region 1 r6 false) (.cond (.tmp 9) .skip (.exit 0))) (.seq (.block 1 (.region 3 r12 true)) (.region 2 r13 false))
noncomputable def c0 : Code := .seq (.region 0 r1 false) (.block 0 (.loop c4))
theorem body : Tryz.f521.body = some c0 := by kernel_rfl
section
variable {base : Nat} {W0 : Env} {β0 : Bt}
def L0 (k : Nat) : Nat → Sl → Int → Int → HS → Option ((Unit) × HS)
 | 0,_,_,_,_ => none
 | n + 1,y0,y2,y3,S =>
  (if y2 < y3 then
  (Option.bind (HS.idx S y0 y3 1) fun p2 =>
  (Option.bind (HS.ldS S p2) fun p3 =>
  (Option.bind (HS.idx S y0 y2 1) fun p4 =>
  (Option.bind (HS.ldS S p4) fun p5 =>
  (Option.bind (HS.idx S y0 y2 1) fun p6 =>
  (Option.bind (HS.sets S p6 [(.str p3)]) fun p7 =>
  (Option.bind (HS.idx p7 y0 y3 1) fun p8 =>
  (Option.bind (HS.sets p7 p8 [(.str p5)]) fun p9 =>
  (L0 k n) y0 (w64 (y2 + 1)) (w64 (y3 - 1)) p9)))))))) else
  some ((),S))
theorem L0_snd {k : Nat}  : ∀ {n : Nat} ⦃y0 : Sl⦄ ⦃y2 : Int⦄ ⦃y3 : Int⦄ ⦃S : HS⦄ ⦃p : (Unit) × HS⦄ ⦃Gb Ge Gf Gg Gh Gi Gj Gk Gl Gm Gn Go Gp Gq Gr Gs Gt Gu Gv Gw Gx Gy Gz Ka Kb : HV⦄,L0 k n y0 y2 y3 S = some p → HRun Tryz.prog base W0 β0 521 none [.inLoop c4,.inBlock 0] ⟨[(Sl.hv y0),Gb,(.int .i64 y2),(.int .i64 y3),Ge,Gf,Gg,Gh,Gi,Gj,Gk,Gl,Gm,Gn,Go,Gp,Gq,Gr,Gs,Gt,Gu,Gv,Gw,Gx,Gy,Gz,Ka,Kb],[]⟩ S (fun v S1 => v = (.tup []) ∧ S1 = p.2) := by
 intro n
 induction n with
 | zero => intro _ _ _ _ _ _ _ _ _ _ _ _ _ _ _ _ _ _ _ _ _ _ _ _ _ _ _ _ _ _ h; cases h
 | succ n ih =>
  intro y0 y2 y3 S p Gb Ge Gf Gg Gh Gi Gj Gk Gl Gm Gn Go Gp Gq Gr Gs Gt Gu Gv Gw Gx Gy Gz Ka Kb h
  simp only [L0] at h
  refine hr_inLoop (qQ rfl (qQ rfl (qR rfl rfl (qS 7 rfl (oM · rfl) (qS 8 rfl (oM · rfl) (qS 9 rfl (oB · rfl rfl rfl) (rE ?_)))))))
  try dsimp only [w0,w1,w2,w3]
  rcases ifc h with ⟨hc1,h⟩ | ⟨hc1,h⟩
  ·refine q_cond_t rfl (.tmp rfl) (decide_eq_true hc1) (q_skipc rfl (qQ rfl (q_block rfl ?_)))
   refine x_start (cls := [0,0,0,0,0,0,1,1,0,0,1,1,1,2,1,2]) (rk := [0,1,12,13,2,3,4,5,6,7,8,9,10,11,14,15]) rfl (by kernel_rfl) ?_
   refine yf 14 [0] rfl (oM · rfl) ?_
   refine yf 15 [2] rfl (oM · rfl) ?_
   refine yf 16 [0] rfl (oM · rfl) ?_
   refine yf 17 [3] rfl (oM · rfl) ?_
   try dsimp only [w0,w1,w2,w3]
   refine yf 18 [0] rfl (oM · rfl) ?_
   refine yf 19 [3] rfl (oM · rfl) ?_
   obtain ⟨p2,hp2,h⟩ := bindo h
   refine yr 20 [18,19] rfl (oX (s := y0) · tu30 sz9 rfl rfl hp2) ?_
   obtain ⟨p3,hp3,h⟩ := bindo h
   refine yr 21 [20] rfl (oL · sc9 rfl rfl (ldS_out hp3)) ?_
   try dsimp only [w0,w1,w2,w3]
   refine yf 22 [0] rfl (oM · rfl) ?_
   refine yf 23 [2] rfl (oM · rfl) ?_
   obtain ⟨p4,hp4,h⟩ := bindo h
   refine yr 24 [22,23] rfl (oX (s := y0) · tu30 sz9 rfl rfl hp4) ?_
   obtain ⟨p5,hp5,h⟩ := bindo h
   refine yr 25 [24] rfl (oL · sc9 rfl rfl (ldS_out hp5)) ?_
   try dsimp only [w0,w1,w2,w3]
   obtain ⟨p6,hp6,h⟩ := bindo h
   refine yr 26 [14,15] rfl (oX (s := y0) · tu30 sz9 rfl rfl hp6) ?_
   obtain ⟨p7,hp7,h⟩ := bindo h
   refine x_go (e_op (dst := none) (ts := [26,21]) rfl (by intro _ _ h; cases h) (by kernel_rfl) (fun _ ho => ok_store_s (v := (.str p3)) ho sz9 (.tmp rfl) rfl (.tmp rfl) rfl hp7)) rfl ?_
   obtain ⟨p8,hp8,h⟩ := bindo h
   refine yr 27 [16,17] rfl (oX (s := y0) · tu30 sz9 rfl rfl hp8) ?_
   obtain ⟨p9,hp9,h⟩ := bindo h
   refine x_go (e_op (dst := none) (ts := [27,25]) rfl (by intro _ _ h; cases h) (by kernel_rfl) (fun _ ho => ok_store_s (v := (.str p5)) ho sz9 (.tmp rfl) rfl (.tmp rfl) rfl hp9)) rfl ?_
   refine x_rest rfl ?_
   refine rE ?_
   try dsimp only [w0,w1,w2,w3]
   refine hr_inBlock (qR rfl rfl (qS 10 rfl (oM · rfl) (qS 11 rfl (oC · rfl rfl) (qS 12 rfl (oM · rfl) (qS 13 rfl (oC · rfl rfl) ?_)))))
   try dsimp only [w0,w1,w2,w3]
   refine qS 2 rfl (oA · rfl) (qS 3 rfl (oA · rfl) (rE ?_))
   try dsimp only [w0,w1,w2,w3]
   try dsimp only [w0,w1,w2,w3]
   exact ih h
  ·cases h
   exact q_cond_f rfl (.tmp rfl) (decide_eq_false hc1) (q_exit rfl rfl (q_end at_.at_ rfl (res0 rfl) ⟨rfl,rfl⟩))
def f (k : Nat) (x0 : Sl) (S : HS) : Option ((Unit) × HS) :=
 L0 k k x0 0 (w64 ((Sl.len x0 : Int) - 1)) S
theorem snd {k : Nat} {x0 : Sl} {S : HS}  {p : (Unit) × HS} (h : f k x0 S = some p) : HCall Tryz.prog base W0 β0 521 [(Sl.hv x0)] S (fun v S1 => v = (.tup []) ∧ S1 = p.2) := by
 unfold f at h
 refine HCall.of_run at_.at_ body ?_
 show HRun Tryz.prog base W0 β0 521 none [.code c0] ⟨[(Sl.hv x0),τ,τ,τ,τ,τ,τ,τ,τ,τ,τ,τ,τ,τ,τ,τ,τ,τ,τ,τ,τ,τ,τ,τ,τ,τ,τ,τ],[]⟩ S _
 refine qQ rfl (qR rfl rfl (qS 4 rfl (oM · rfl) (qS 5 rfl (ok_len_sl (q := Sl.a x0) (n := Sl.len x0) (z := Sl.cap x0) · rfl tu30 (.tmp rfl)) (qS 6 rfl (oC · rfl rfl) (qS 2 rfl (ok_assign · (.int _ _)) ?_)))))
 try dsimp only [w0,w1,w2,w3]
 refine qS 3 rfl (oA · rfl) (rE ?_)
 try dsimp only [w0,w1,w2,w3]
 refine q_block rfl (q_loop rfl ?_)
 try dsimp only [w0,w1,w2,w3]
 exact L0_snd  h
end
end slices_Reverse_string_string
namespace slices_rotateLeft_string
theorem at_ : FnAt Tryz.prog 518 Tryz.f518 := ⟨Tryz.func518,by kernel_rfl⟩
noncomputable def d0 := (Tryz.f518.body).getD .skip
noncomputable def r1 := kR (kA d0)
noncomputable def r3 := kR (kA (kB d0))
noncomputable def r4 := kR (kB (kB d0))
noncomputable def c0 : Code := .seq (.region 0 r1 false) (.seq (.region 1 r3 false) (.region 2 r4 false))
theorem body : Tryz.f518.body = some c0 := by kernel_rfl
section
variable {base : Nat} {W0 : Env} {β0 : Bt}
def f (k : Nat) (x0 : Sl) (x1 : Int) (S : HS) : Option ((Unit) × HS) :=
 (Option.bind (HS.cut S x0 0 x1 1) fun p1 =>
 (Option.bind (slices_Reverse_string_string.f k p1 S) fun p2 =>
 (Option.bind (HS.cut p2.2 x0 x1 (Sl.len x0 : Int) 1) fun p3 =>
 (Option.bind (slices_Reverse_string_string.f k p3 p2.2) fun p4 =>
 (Option.bind (slices_Reverse_string_string.f k x0 p4.2) fun p5 =>
 some ((),p5.2))))))
theorem snd {k : Nat} {x0 : Sl} {x1 : Int} {S : HS}  {p : (Unit) × HS} (h : f k x0 x1 S = some p) : HCall Tryz.prog base W0 β0 518 [(Sl.hv x0),(.int .i64 x1)] S (fun v S1 => v = (.tup []) ∧ S1 = p.2) := by
 unfold f at h
 refine HCall.of_run at_.at_ body ?_
 show HRun Tryz.prog base W0 β0 518 none [.code c0] ⟨[(Sl.hv x0),(.int .i64 x1),τ,τ,τ,τ,τ,τ,τ,τ,τ,τ,τ,τ],[]⟩ S _
 obtain ⟨p1,hp1,h⟩ := bindo h
 obtain ⟨p2,hp2,h⟩ := bindo h
 refine qQ rfl (qR rfl rfl (qS 4 rfl (oM · rfl) (qS 5 rfl (oM · rfl) (qS 6 rfl (ok_slice (kl := .i64) (kh := .i64) (s := x0) (l := 0) (h := x1) · tu30 si9 (.tmp rfl) (.inl ⟨rfl,rfl⟩) (.inr ⟨_,rfl,(.tmp rfl)⟩) hp1) (q_call (dst := some 7) rfl (.func _) (.cons (.tmp rfl) Evs.nil) (HInv.static slices_Reverse_string_string.at_ slices_Reverse_string_string.body (slices_Reverse_string_string.snd  hp2)) ?_)))))
 rintro _ _ ⟨rfl,rfl⟩
 refine rE ?_
 try dsimp only [w0,w1,w2,w3]
 obtain ⟨p3,hp3,h⟩ := bindo h
 obtain ⟨p4,hp4,h⟩ := bindo h
 refine qQ rfl (qR rfl rfl (qS 8 rfl (oM · rfl) (qS 9 rfl (oM · rfl) (qS 10 rfl (ok_slice (kl := .i64) (kh := .i64) (s := x0) (l := x1) (h := (Sl.len x0 : Int)) · tu30 si9 (.tmp rfl) (.inr ⟨_,rfl,(.tmp rfl)⟩) (.inl ⟨rfl,rfl⟩) hp3) (q_call (dst := some 11) rfl (.func _) (.cons (.tmp rfl) Evs.nil) (HInv.static slices_Reverse_string_string.at_ slices_Reverse_string_string.body (slices_Reverse_string_string.snd  hp4)) ?_)))))
 rintro _ _ ⟨rfl,rfl⟩
 refine rE ?_
 try dsimp only [w0,w1,w2,w3]
 obtain ⟨p5,hp5,h⟩ := bindo h
 refine qR rfl rfl (qS 12 rfl (oM · rfl) (q_call (dst := some 13) rfl (.func _) (.cons (.tmp rfl) Evs.nil) (HInv.static slices_Reverse_string_string.at_ slices_Reverse_string_string.body (slices_Reverse_string_string.snd  hp5)) ?_))
 rintro _ _ ⟨rfl,rfl⟩
 refine rE ?_
 try dsimp only [w0,w1,w2,w3]
 cases h
 exact q_end at_.at_ rfl (res0 rfl) ⟨rfl,rfl⟩
end
end slices_rotateLeft_string
namespace slices_rotateRight_string
theorem at_ : FnAt Tryz.prog 513 Tryz.f513 := ⟨Tryz.func513,by kernel_rfl⟩
noncomputable def d0 := (Tryz.f513.body).getD .skip
noncomputable def r0 := kR d0
noncomputable def c0 : Code := .region 0 r0 false
theorem body : Tryz.f513.body = some c0 := by kernel_rfl
section
variable {base : Nat} {W0 : Env} {β0 : Bt}
def f (k : Nat) (x0 : Sl) (x1 : Int) (S : HS) : Option ((Unit) × HS) :=
 (Option.bind (slices_rotateLeft_string.f k x0 (w64 ((Sl.len x0 : Int) - x1)) S) fun p1 =>
 some ((),p1.2))
theorem snd {k : Nat} {x0 : Sl} {x1 : Int} {S : HS}  {p : (Unit) × HS} (h : f k x0 x1 S = some p) : HCall Tryz.prog base W0 β0 513 [(Sl.hv x0),(.int .i64 x1)] S (fun v S1 => v = (.tup []) ∧ S1 = p.2) := by
 unfold f at h
 refine HCall.of_run at_.at_ body ?_
 show HRun Tryz.prog base W0 β0 513 none [.code c0] ⟨[(Sl.hv x0),(.int .i64 x1),τ,τ,τ,τ,τ,τ,τ,τ],[]⟩ S _
 refine qR rfl rfl (qS 4 rfl (oM · rfl) (qS 5 rfl (oM · rfl) (qS 6 rfl (ok_len_sl (q := Sl.a x0) (n := Sl.len x0) (z := Sl.cap x0) · rfl tu30 (.tmp rfl)) (qS 7 rfl (oM · rfl) ?_))))
 try dsimp only [w0,w1,w2,w3]
 obtain ⟨p1,hp1,h⟩ := bindo h
 refine qS 8 rfl (oB · rfl rfl rfl) (q_call (dst := some 9) rfl (.func _) (.cons (.tmp rfl) (.cons (.tmp rfl) Evs.nil)) (HInv.static slices_rotateLeft_string.at_ slices_rotateLeft_string.body (slices_rotateLeft_string.snd  hp1)) ?_)
 rintro _ _ ⟨rfl,rfl⟩
 refine rE ?_
 try dsimp only [w0,w1,w2,w3]
 cases h
 exact q_end at_.at_ rfl (res0 rfl) ⟨rfl,rfl⟩
end
end slices_rotateRight_string
namespace slices_Insert_string_string
theorem at_ : FnAt Tryz.prog 502 Tryz.f502 := ⟨Tryz.func502,by kernel_rfl⟩
noncomputable def d0 := (Tryz.f502.body).getD .skip
noncomputable def r1 := kR (kA d0)
noncomputable def r3 := kR (kA (kB d0))
noncomputable def r5 := kR (kA (kB (kB d0)))
noncomputable def d6 := kB (kB (kB d0))
noncomputable def r8 := kR (kA (kA d6))
noncomputable def r11 := kR (kA (kA (kB (kA d6))))
noncomputable def r15 := kR (kA (kB d6))
noncomputable def r18 := kR (kA (kA (kB (kB d6))))
noncomputable def r21 := kR (kA (kA (kB (kA (kB (kB d6))))))
noncomputable def d24 := kB (kB (kB d6))
noncomputable def r26 := kR (kA (kA d24))
noncomputable def d28 := kA (kB (kA d24))
noncomputable def r29 := kR (kA d28)
noncomputable def r31 := kR (kA (kB d28))
noncomputable def r33 := kR (kA (kB (kB d28)))
noncomputable def r35 := kR (kA (kB (kB (kB d28))))
noncomputable def r39 := kR (kA (kB d24))
noncomputable def d41 := kA (kB (kB d24))
noncomputable def r42 := kR (kA d41)
noncomputable def r45 := kR (kA (kA (kB d41)))
noncomputable def r47 := kR (kA (kB (kA (kB d41))))
noncomputable def r49 := kR (kA (kB (kB (kA (kB d41)))))
noncomputable def r53 := kR (kA (kB (kB (kB d24))))
noncomputable def r55 := kR (kA (kB (kB (kB (kB d24)))))
noncomputable def r57 := kR (kA (kB (kB (kB (kB (kB d24))))))
noncomputable def c0 : Code := .seq (.region 0 r1 false) (.seq (.region 1 r3 false) (.seq (.region 2 r5 false) (.seq (.seq (.region 3 r8 false) (.cond (.tmp 16) (.seq (.region 4 r11 false) .ret) .skip)) (.seq (.region 5 r15 false) (.seq (.seq (.region 6 r18 false) (.cond (.tmp 22) (.seq (.region 7 r21 false) .ret) .skip)) (.seq (.seq (.region 8 r26 false) (.cond (.tmp 31) (.seq (.region 9 r29 false) (.seq (.region 10 r31 false) (.seq (.region 11 r33 true) (.seq (.region 12 r35 false) .ret)))) .skip)) (.seq (.region 13 r39 false) (.seq (.seq (.region 14 r42 false) (.cond (.tmp 68) (.seq (.region 15 r45 true) (.seq (.region 16 r47 false) (.seq (.region 17 r49 false) .ret))) .skip)) (.seq (.region 18 r53 false) (.seq (.region 19 r55 false) (.seq (.region 20 r57 false) .ret)))))))))))
theorem body : Tryz.f502.body = some c0 := by kernel_rfl
section
variable {base : Nat} {W0 : Env} {β0 : Bt}
def f (k : Nat) (x0 : Sl) (x1 : Int) (x2 : Sl) (S : HS) : Option ((Sl) × HS) :=
 (Option.bind (HS.cut S x0 x1 (Sl.len x0 : Int) 1) fun p1 =>
 (if (Sl.len x2 : Int) = 0 then
 some (x0,S) else
 (if x1 = (Sl.len x0 : Int) then
 (Option.bind (HS.rows S x2 1) fun p4 =>
 (Option.bind (HS.app S x0 p4 1) fun p5 =>
 some ((p5.1),(p5.2)))) else
 (Option.bind (Sl.capOf x0) fun p6 =>
 (if (w64 ((Sl.len x0 : Int) + (Sl.len x2 : Int))) > p6 then
 (Option.bind (HS.cut S x0 0 x1 1) fun p8 =>
 (Option.bind (HS.appZ S p8 (w64 ((w64 ((Sl.len x0 : Int) + (Sl.len x2 : Int))) - x1)) [(.str [])] 1) fun p9 =>
 (Option.bind (HS.cut (p9.2) (p9.1) x1 (Sl.len (p9.1) : Int) 1) fun p10 =>
 (Option.bind (HS.rows (p9.2) x2 1) fun p11 =>
 (Option.bind (HS.over (p9.2) p10 (List.take (Sl.len p10) p11) 1) fun p12 =>
 (Option.bind (HS.cut p12 (p9.1) (w64 (x1 + (Sl.len x2 : Int))) (Sl.len (p9.1) : Int) 1) fun p13 =>
 (Option.bind (HS.cut p12 x0 x1 (Sl.len x0 : Int) 1) fun p14 =>
 (Option.bind (HS.rows p12 p14 1) fun p15 =>
 (Option.bind (HS.over p12 p13 (List.take (Sl.len p13) p15) 1) fun p16 =>
 some ((p9.1),p16)))))))))) else
 (Option.bind (HS.cut S x0 0 (w64 ((Sl.len x0 : Int) + (Sl.len x2 : Int))) 1) fun p17 =>
 (Option.bind (HS.cut S p17 (w64 (x1 + (Sl.len x2 : Int))) (Sl.len p17 : Int) 1) fun p18 =>
 (Option.bind (HS.ovl S x2 p18) fun p19 =>
 (if (!p19) = true then
 (Option.bind (HS.cut S p17 (w64 (x1 + (Sl.len x2 : Int))) (Sl.len p17 : Int) 1) fun p21 =>
 (Option.bind (HS.cut S p17 x1 (Sl.len p17 : Int) 1) fun p22 =>
 (Option.bind (HS.rows S p22 1) fun p23 =>
 (Option.bind (HS.over S p21 (List.take (Sl.len p21) p23) 1) fun p24 =>
 (Option.bind (HS.cut p24 p17 x1 (Sl.len p17 : Int) 1) fun p25 =>
 (Option.bind (HS.rows p24 x2 1) fun p26 =>
 (Option.bind (HS.over p24 p25 (List.take (Sl.len p25) p26) 1) fun p27 =>
 some (p17,p27)))))))) else
 (Option.bind (HS.cut S p17 (Sl.len x0 : Int) (Sl.len p17 : Int) 1) fun p28 =>
 (Option.bind (HS.rows S x2 1) fun p29 =>
 (Option.bind (HS.over S p28 (List.take (Sl.len p28) p29) 1) fun p30 =>
 (Option.bind (HS.cut p30 p17 x1 (Sl.len p17 : Int) 1) fun p31 =>
 (Option.bind (slices_rotateRight_string.f k p31 (Sl.len x2 : Int) p30) fun p32 =>
 some (p17,p32.2)))))))))))))))
theorem snd {k : Nat} {x0 : Sl} {x1 : Int} {x2 : Sl} {S : HS}  {p : (Sl) × HS} (h : f k x0 x1 x2 S = some p) : HCall Tryz.prog base W0 β0 502 [(Sl.hv x0),(.int .i64 x1),(Sl.hv x2)] S (fun v S1 => v = (Sl.hv p.1) ∧ S1 = p.2) := by
 unfold f at h
 refine HCall.of_run at_.at_ body ?_
 show HRun Tryz.prog base W0 β0 502 none [.code c0] ⟨[(Sl.hv x0),(.int .i64 x1),(Sl.hv x2),τ,τ,τ,τ,τ,τ,τ,τ,τ,τ,τ,τ,τ,τ,τ,τ,τ,τ,τ,τ,τ,τ,τ,τ,τ,τ,τ,τ,τ,τ,τ,τ,τ,τ,τ,τ,τ,τ,τ,τ,τ,τ,τ,τ,τ,τ,τ,τ,τ,τ,τ,τ,τ,τ,τ,τ,τ,τ,τ,τ,τ,τ,τ,τ,τ,τ,τ,τ,τ,τ,τ,τ,τ,τ,τ,τ,τ,τ,τ,τ,τ,τ,τ,τ,τ,τ,τ,τ,τ,τ,τ,τ],[]⟩ S _
 refine qQ rfl (qR rfl rfl (qS 6 rfl (ok_assign · (.const fun _ => .slNil none)) (rE ?_)))
 try dsimp only [w0,w1,w2,w3]
 obtain ⟨p1,hp1,h⟩ := bindo h
 refine qQ rfl (qR rfl rfl (qS 10 rfl (oM · rfl) (qS 11 rfl (oM · rfl) (qS 12 rfl (ok_slice (kl := .i64) (kh := .i64) (s := x0) (l := x1) (h := (Sl.len x0 : Int)) · tu30 si9 (.tmp rfl) (.inr ⟨_,rfl,(.tmp rfl)⟩) (.inl ⟨rfl,rfl⟩) hp1) (rE ?_)))))
 try dsimp only [w0,w1,w2,w3]
 refine qQ rfl (qR rfl rfl (qS 13 rfl (oM · rfl) (qS 14 rfl (ok_len_sl (q := Sl.a x2) (n := Sl.len x2) (z := Sl.cap x2) · rfl tu30 (.tmp rfl)) (qS 7 rfl (oA · rfl) (rE ?_)))))
 try dsimp only [w0,w1,w2,w3]
 refine qQ rfl (qQ rfl (qR rfl rfl (qS 15 rfl (oM · rfl) (qS 16 rfl (oC · rfl rfl) (rE ?_)))))
 try dsimp only [w0,w1,w2,w3]
 rcases ifc h with ⟨hc2,h⟩ | ⟨hc2,h⟩
 ·refine q_cond_t rfl (.tmp rfl) (decide_eq_true hc2) (qQ rfl (qR rfl rfl (qS 17 rfl (oM · rfl) (qS 6 rfl (oA · rfl) (rE ?_)))))
  try dsimp only [w0,w1,w2,w3]
  cases h
  exact q_ret rfl at_.at_ rfl (res1 rfl rfl) ⟨rfl,rfl⟩
 ·refine q_cond_f rfl (.tmp rfl) (decide_eq_false hc2) (q_skipc rfl (qQ rfl (qR rfl rfl (qS 18 rfl (oM · rfl) (qS 19 rfl (ok_len_sl (q := Sl.a x0) (n := Sl.len x0) (z := Sl.cap x0) · rfl tu30 (.tmp rfl)) (qS 8 rfl (oA · rfl) (rE ?_)))))))
  try dsimp only [w0,w1,w2,w3]
  refine qQ rfl (qQ rfl (qR rfl rfl (qS 20 rfl (oM · rfl) (qS 21 rfl (oM · rfl) (qS 22 rfl (oB · rfl rfl rfl) (rE ?_))))))
  try dsimp only [w0,w1,w2,w3]
  rcases ifc h with ⟨hc3,h⟩ | ⟨hc3,h⟩
  ·obtain ⟨p4,hp4,h⟩ := bindo h
   obtain ⟨p5,hp5,h⟩ := bindo h
   refine q_cond_t rfl (.tmp rfl) (decide_eq_true hc3) (qQ rfl (qR rfl rfl (qS 23 rfl (oM · rfl) (qS 24 rfl (oM · rfl) (qS 25 rfl (ok_append (s := x0) (s1 := x2) el30 · rfl rfl ⟨_,tu30⟩ (.tmp rfl) (.tmp rfl) hp4 hp5) (qS 6 rfl (oA · rfl) (rE ?_)))))))
   try dsimp only [w0,w1,w2,w3]
   cases h
   exact q_ret rfl at_.at_ rfl (res1 rfl rfl) ⟨rfl,rfl⟩
  ·refine q_cond_f rfl (.tmp rfl) (decide_eq_false hc3) (q_skipc rfl (qQ rfl (qQ rfl (qR rfl rfl (qS 26 rfl (oM · rfl) (qS 27 rfl (oM · rfl) (qS 28 rfl (oB · rfl rfl rfl) (qS 29 rfl (oM · rfl) ?_))))))))
   try dsimp only [w0,w1,w2,w3]
   obtain ⟨p6,hp6,h⟩ := bindo h
   refine qS 30 rfl (ok_cap (s := x0) · rfl tu30 (.tmp rfl) hp6) (qS 31 rfl (oB · rfl rfl rfl) (rE ?_))
   try dsimp only [w0,w1,w2,w3]
   rcases ifc h with ⟨hc7,h⟩ | ⟨hc7,h⟩
   ·obtain ⟨p8,hp8,h⟩ := bindo h
    refine q_cond_t rfl (.tmp rfl) (decide_eq_true hc7) (qQ rfl (qR rfl rfl (qS 32 rfl (oM · rfl) (qS 33 rfl (oM · rfl) (qS 34 rfl (ok_slice (kl := .i64) (kh := .i64) (s := x0) (l := 0) (h := x1) · tu30 si9 (.tmp rfl) (.inl ⟨rfl,rfl⟩) (.inr ⟨_,rfl,(.tmp rfl)⟩) hp8) (qS 35 rfl (oM · rfl) ?_))))))
    try dsimp only [w0,w1,w2,w3]
    refine qS 36 rfl (oM · rfl) (qS 37 rfl (oB · rfl rfl rfl) (qS 38 rfl (oM · rfl) (qS 39 rfl (oB · rfl rfl rfl) ?_)))
    try dsimp only [w0,w1,w2,w3]
    obtain ⟨p9,hp9,h⟩ := bindo h
    refine qS 40 rfl (ok_append_zeros (s := p8) el30 · rfl rfl tu3 (.tmp rfl) (.tmp rfl) hp9) (qS 9 rfl (oA · rfl) (rE ?_))
    try dsimp only [w0,w1,w2,w3]
    obtain ⟨p10,hp10,h⟩ := bindo h
    refine qQ rfl (qR rfl rfl (qS 41 rfl (oM · rfl) (qS 42 rfl (oM · rfl) (qS 43 rfl (ok_slice (kl := .i64) (kh := .i64) (s := (p9.1)) (l := x1) (h := (Sl.len (p9.1) : Int)) · tu30 si9 (.tmp rfl) (.inr ⟨_,rfl,(.tmp rfl)⟩) (.inl ⟨rfl,rfl⟩) hp10) (qS 44 rfl (oM · rfl) ?_)))))
    try dsimp only [w0,w1,w2,w3]
    obtain ⟨p11,hp11,h⟩ := bindo h
    obtain ⟨p12,hp12,h⟩ := bindo h
    refine qS 45 rfl (ok_copy (s := p10) (s1 := x2) el30 · rfl (.tmp rfl) (.tmp rfl) hp11 hp12) (rE ?_)
    try dsimp only [w0,w1,w2,w3]
    refine qQ rfl ?_
    refine x_start (cls := [0,0,0,0,1,0,0,1,2]) (rk := [0,1,2,3,4,5,6,7,8]) rfl (by kernel_rfl) ?_
    refine yf 46 [9] rfl (oM · rfl) ?_
    refine yf 47 [1] rfl (oM · rfl) ?_
    refine yf 48 [7] rfl (oM · rfl) ?_
    refine yf 49 [47,48] rfl (oB · rfl rfl rfl) ?_
    try dsimp only [w0,w1,w2,w3]
    obtain ⟨p13,hp13,h⟩ := bindo h
    refine yr 50 [46,49] rfl (ok_slice (kl := .i64) (kh := .i64) (s := (p9.1)) (l := (w64 (x1 + (Sl.len x2 : Int)))) (h := (Sl.len (p9.1) : Int)) · tu30 si9 (.tmp rfl) (.inr ⟨_,rfl,(.tmp rfl)⟩) (.inl ⟨rfl,rfl⟩) hp13) ?_
    refine yf 51 [0] rfl (oM · rfl) ?_
    refine yf 52 [1] rfl (oM · rfl) ?_
    obtain ⟨p14,hp14,h⟩ := bindo h
    refine yr 53 [51,52] rfl (ok_slice (kl := .i64) (kh := .i64) (s := x0) (l := x1) (h := (Sl.len x0 : Int)) · tu30 si9 (.tmp rfl) (.inr ⟨_,rfl,(.tmp rfl)⟩) (.inl ⟨rfl,rfl⟩) hp14) ?_
    try dsimp only [w0,w1,w2,w3]
    obtain ⟨p15,hp15,h⟩ := bindo h
    obtain ⟨p16,hp16,h⟩ := bindo h
    refine ye 54 [50,53] rfl (ok_copy (s := p13) (s1 := p14) el30 · rfl (.tmp rfl) (.tmp rfl) hp15 hp16) ?_
    refine x_rest rfl ?_
    refine rE ?_
    try dsimp only [w0,w1,w2,w3]
    refine qQ rfl (qR rfl rfl (qS 55 rfl (oM · rfl) (qS 6 rfl (oA · rfl) (rE ?_))))
    try dsimp only [w0,w1,w2,w3]
    cases h
    exact q_ret rfl at_.at_ rfl (res1 rfl rfl) ⟨rfl,rfl⟩
   ·refine q_cond_f rfl (.tmp rfl) (decide_eq_false hc7) (q_skipc rfl (qQ rfl (qR rfl rfl (qS 56 rfl (oM · rfl) (qS 57 rfl (oM · rfl) (qS 58 rfl (oM · rfl) (qS 59 rfl (oB · rfl rfl rfl) ?_)))))))
    try dsimp only [w0,w1,w2,w3]
    obtain ⟨p17,hp17,h⟩ := bindo h
    refine qS 60 rfl (ok_slice (kl := .i64) (kh := .i64) (s := x0) (l := 0) (h := (w64 ((Sl.len x0 : Int) + (Sl.len x2 : Int)))) · tu30 si9 (.tmp rfl) (.inl ⟨rfl,rfl⟩) (.inr ⟨_,rfl,(.tmp rfl)⟩) hp17) (qS 0 rfl (oA · rfl) (rE ?_))
    try dsimp only [w0,w1,w2,w3]
    refine qQ rfl (qQ rfl (qR rfl rfl (qS 61 rfl (oM · rfl) (qS 62 rfl (oM · rfl) (qS 63 rfl (oM · rfl) (qS 64 rfl (oM · rfl) ?_))))))
    try dsimp only [w0,w1,w2,w3]
    obtain ⟨p18,hp18,h⟩ := bindo h
    obtain ⟨p19,hp19,h⟩ := bindo h
    refine qS 65 rfl (oB · rfl rfl rfl) (qS 66 rfl (ok_slice (kl := .i64) (kh := .i64) (s := p17) (l := (w64 (x1 + (Sl.len x2 : Int)))) (h := (Sl.len p17 : Int)) · tu30 si9 (.tmp rfl) (.inr ⟨_,rfl,(.tmp rfl)⟩) (.inl ⟨rfl,rfl⟩) hp18) (qS 67 rfl (ok_overlaps (s1 := x2) (s2 := p18) · ext512 tu30 si9 (.tmp rfl) (.tmp rfl) hp19) (qS 68 rfl (ok_not · (.tmp rfl)) (rE ?_))))
    try dsimp only [w0,w1,w2,w3]
    rcases ifc h with ⟨hc20,h⟩ | ⟨hc20,h⟩
    ·refine q_cond_t rfl (.tmp rfl) hc20 (qQ rfl ?_)
     refine x_start (cls := [0,0,0,0,1,0,0,1,2]) (rk := [0,1,2,3,4,5,6,7,8]) rfl (by kernel_rfl) ?_
     refine yf 69 [0] rfl (oM · rfl) ?_
     refine yf 70 [1] rfl (oM · rfl) ?_
     refine yf 71 [7] rfl (oM · rfl) ?_
     refine yf 72 [70,71] rfl (oB · rfl rfl rfl) ?_
     try dsimp only [w0,w1,w2,w3]
     obtain ⟨p21,hp21,h⟩ := bindo h
     refine yr 73 [69,72] rfl (ok_slice (kl := .i64) (kh := .i64) (s := p17) (l := (w64 (x1 + (Sl.len x2 : Int)))) (h := (Sl.len p17 : Int)) · tu30 si9 (.tmp rfl) (.inr ⟨_,rfl,(.tmp rfl)⟩) (.inl ⟨rfl,rfl⟩) hp21) ?_
     refine yf 74 [0] rfl (oM · rfl) ?_
     refine yf 75 [1] rfl (oM · rfl) ?_
     obtain ⟨p22,hp22,h⟩ := bindo h
     refine yr 76 [74,75] rfl (ok_slice (kl := .i64) (kh := .i64) (s := p17) (l := x1) (h := (Sl.len p17 : Int)) · tu30 si9 (.tmp rfl) (.inr ⟨_,rfl,(.tmp rfl)⟩) (.inl ⟨rfl,rfl⟩) hp22) ?_
     try dsimp only [w0,w1,w2,w3]
     obtain ⟨p23,hp23,h⟩ := bindo h
     obtain ⟨p24,hp24,h⟩ := bindo h
     refine ye 77 [73,76] rfl (ok_copy (s := p21) (s1 := p22) el30 · rfl (.tmp rfl) (.tmp rfl) hp23 hp24) ?_
     refine x_rest rfl ?_
     refine rE ?_
     try dsimp only [w0,w1,w2,w3]
     obtain ⟨p25,hp25,h⟩ := bindo h
     refine qQ rfl (qR rfl rfl (qS 78 rfl (oM · rfl) (qS 79 rfl (oM · rfl) (qS 80 rfl (ok_slice (kl := .i64) (kh := .i64) (s := p17) (l := x1) (h := (Sl.len p17 : Int)) · tu30 si9 (.tmp rfl) (.inr ⟨_,rfl,(.tmp rfl)⟩) (.inl ⟨rfl,rfl⟩) hp25) (qS 81 rfl (oM · rfl) ?_)))))
     try dsimp only [w0,w1,w2,w3]
     obtain ⟨p26,hp26,h⟩ := bindo h
     obtain ⟨p27,hp27,h⟩ := bindo h
     refine qS 82 rfl (ok_copy (s := p25) (s1 := x2) el30 · rfl (.tmp rfl) (.tmp rfl) hp26 hp27) (rE ?_)
     try dsimp only [w0,w1,w2,w3]
     refine qQ rfl (qR rfl rfl (qS 83 rfl (oM · rfl) (qS 6 rfl (oA · rfl) (rE ?_))))
     try dsimp only [w0,w1,w2,w3]
     cases h
     exact q_ret rfl at_.at_ rfl (res1 rfl rfl) ⟨rfl,rfl⟩
    ·obtain ⟨p28,hp28,h⟩ := bindo h
     refine q_cond_f rfl (.tmp rfl) (bfalse hc20) (q_skipc rfl (qQ rfl (qR rfl rfl (qS 84 rfl (oM · rfl) (qS 85 rfl (oM · rfl) (qS 86 rfl (ok_slice (kl := .i64) (kh := .i64) (s := p17) (l := (Sl.len x0 : Int)) (h := (Sl.len p17 : Int)) · tu30 si9 (.tmp rfl) (.inr ⟨_,rfl,(.tmp rfl)⟩) (.inl ⟨rfl,rfl⟩) hp28) (qS 87 rfl (oM · rfl) ?_)))))))
     try dsimp only [w0,w1,w2,w3]
     obtain ⟨p29,hp29,h⟩ := bindo h
     obtain ⟨p30,hp30,h⟩ := bindo h
     refine qS 88 rfl (ok_copy (s := p28) (s1 := x2) el30 · rfl (.tmp rfl) (.tmp rfl) hp29 hp30) (rE ?_)
     try dsimp only [w0,w1,w2,w3]
     obtain ⟨p31,hp31,h⟩ := bindo h
     refine qQ rfl (qR rfl rfl (qS 89 rfl (oM · rfl) (qS 90 rfl (oM · rfl) (qS 91 rfl (ok_slice (kl := .i64) (kh := .i64) (s := p17) (l := x1) (h := (Sl.len p17 : Int)) · tu30 si9 (.tmp rfl) (.inr ⟨_,rfl,(.tmp rfl)⟩) (.inl ⟨rfl,rfl⟩) hp31) (qS 92 rfl (oM · rfl) ?_)))))
     try dsimp only [w0,w1,w2,w3]
     obtain ⟨p32,hp32,h⟩ := bindo h
     refine q_call (dst := some 93) rfl (.func _) (.cons (.tmp rfl) (.cons (.tmp rfl) Evs.nil)) (HInv.static slices_rotateRight_string.at_ slices_rotateRight_string.body (slices_rotateRight_string.snd  hp32)) ?_
     rintro _ _ ⟨rfl,rfl⟩
     refine rE ?_
     try dsimp only [w0,w1,w2,w3]
     refine qQ rfl (qR rfl rfl (qS 94 rfl (oM · rfl) (qS 6 rfl (oA · rfl) (rE ?_))))
     try dsimp only [w0,w1,w2,w3]
     cases h
     exact q_ret rfl at_.at_ rfl (res1 rfl rfl) ⟨rfl,rfl⟩
end
end slices_Insert_string_string
namespace slices_Insert_string_string_w
theorem at_ : FnAt Tryz.prog 502 Tryz.f502 := slices_Insert_string_string.at_
theorem body : Tryz.f502.body = some slices_Insert_string_string.c0 := slices_Insert_string_string.body
def f (x0 : Sl) (x1 : Int) (x2 : Sl) (S : HS) : Option ((Sl) × HS) := HS.ins S x0 x1 x2 1
theorem snd {base : Nat} {W0 : Env} {β0 : Bt} {x0 : Sl} {x1 : Int} {x2 : Sl} {S : HS} {p : (Sl) × HS} (h : f x0 x1 x2 S = some p) : HCall Tryz.prog base W0 β0 502 [(Sl.hv x0),(.int .i64 x1),(Sl.hv x2)] S (fun v S1 => v = (Sl.hv p.1) ∧ S1 = p.2) :=
 ins_snd (rot := fun a b T => slices_rotateRight_string.f 0 a b T) (zr := [(.str [])]) (fun _ _ _ h => slices_Insert_string_string.snd (k := 0) h) h
end slices_Insert_string_string_w
end Go.Proofs.YtfningkbcfhheaaGreatDoor.X
