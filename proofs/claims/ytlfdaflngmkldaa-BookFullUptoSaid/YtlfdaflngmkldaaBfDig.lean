/- A number's digits: a function that calls itself, in a region whose order is open: what it makes besides is forgotten. -/
import Derived.Test.YtlfdaflngmkldaaProg
import Derived.Test.YtlfdaflngmkldaaHLq
namespace Go.Proofs.Ytlfdaflngmkldaa.X
open Go.Proofs.Ytlfdaflngmkldaa.HL Go.RowKit
set_option linter.unusedVariables false
set_option linter.unusedSimpArgs false
set_option maxRecDepth 20000
set_option maxHeartbeats 4000000
theorem d_tu3 : Try.prog.underlying 3 = some (.int .i64) := by kernel_rfl
theorem d_tu9 : Try.prog.underlying 9 = some .string := by kernel_rfl
theorem d_tu5 : Try.prog.underlying 5 = some (.int .u8) := by kernel_rfl
theorem d_el72 : ElemAt Try.prog 72 5 1 [(.int .u8 0)] := elemAt_mk (zv := (.int .u8 0)) (by_ := 1) (by kernel_rfl) (by kernel_rfl) (by decide) (fun β => VRels.cons (.int _ _) (VRels.nil β)) rfl (by decide) rfl
theorem d_tu72 : Try.prog.underlying 72 = some (.slice 5) := by kernel_rfl
namespace rollcallref01_Digits_b
theorem at_ : FnAt Try.prog 10 Try.f10 := ⟨Try.func10, by kernel_rfl⟩
noncomputable def d0 := (Try.f10.body).getD .skip
noncomputable def r1 := kR (kA d0)
noncomputable def r4 := kR (kA (kA (kB d0)))
noncomputable def r7 := kR (kA (kA (kB (kA (kB d0)))))
noncomputable def r11 := kR (kA (kB (kB d0)))
noncomputable def c0 : Code := .seq (.region 0 r1 false) (.seq (.seq (.region 1 r4 false) (.cond (.tmp 4) (.seq (.region 2 r7 false) .ret) .skip)) (.seq (.region 3 r11 true) .ret))
theorem body : Try.f10.body = some c0 := by kernel_rfl
section
variable {base : Nat} {W0 : World} {β0 : Bt}
abbrev Good (base : Nat) (W0 : World) (dg : Int → Option (List UInt8)) : Prop := ∀ {β0 : Bt} {S : HS} {x : Int} {p : List UInt8}, dg x = some p → HCall Try.prog base W0 β0 10 [.int .i64 x] S (fun v S1 => v = .str p ∧ S1 = S)
def f (dg : Int → Option (List UInt8)) (k : Nat) (x0 : Int) (S : HS) : Option (((List UInt8)) × HS) :=
  (if x0 < 10 then
  (letv (HS.lit S [[(.int .u8 (w8 (w64 (48 + x0))))]] 1) fun p2 =>
  (Option.bind (HS.text (p2.2) (p2.1)) fun p3 =>
  some (p3, (p2.2)))) else
  (Option.bind (dg (w64 (Int.tdiv x0 10))) fun p4 =>
  (letv (HS.lit S [[(.int .u8 (w8 (w64 (48 + (Int.tmod x0 10)))))]] 1) fun p5 =>
  (Option.bind (HS.text (p5.2) (p5.1)) fun p6 =>
  (if List.length p4 + List.length p6 ≤ 9223372036854775807 then
  some ((p4 ++ p6), (p5.2)) else none)))))
theorem snd {dg : Int → Option (List UInt8)} (hdg : Good base W0 dg) {k : Nat} {x0 : Int} {S : HS}  {p : ((List UInt8)) × HS} (h : f dg k x0 S = some p) : HCall Try.prog base W0 β0 10 [(.int .i64 x0)] S (fun v S1 => v = (.str p.1) ∧ S1 = p.2) := by
  unfold f at h
  refine HCall.of_run at_.at_ body ?_
  show HRun Try.prog base W0 β0 10 none [.code c0] ⟨[(.int .i64 x0), τ, τ, τ, τ, τ, τ, τ, τ, τ, τ, τ, τ, τ, τ, τ, τ, τ, τ, τ], []⟩ S _
  refine q_seq rfl ?_
  refine q_region rfl rfl ?_
  refine qS 2 rfl (ok_assign · (.str _)) ?_
  refine hr_region_end ?_
  try dsimp only [w0, w1, w2, w3]
  refine q_seq rfl ?_
  refine q_seq rfl ?_
  refine q_region rfl rfl ?_
  refine qS 3 rfl (ok_move · (.tmp rfl)) ?_
  refine qS 4 rfl (ok_ibin · (.tmp rfl) (.int _ _) rfl) ?_
  refine hr_region_end ?_
  try dsimp only [w0, w1, w2, w3]
  rcases ifc h with ⟨hc1, h⟩ | ⟨hc1, h⟩
  · refine q_cond_t rfl (.tmp rfl) (decide_eq_true hc1) ?_
    refine q_seq rfl ?_
    refine q_region rfl rfl ?_
    refine qS 5 rfl (ok_move · (.tmp rfl)) ?_
    refine qS 6 rfl (ok_ibin · (.int _ _) (.tmp rfl) rfl) ?_
    refine qS 7 rfl (ok_conv_int · d_tu3 d_tu5 (.tmp rfl)) ?_
    obtain ⟨p2, hp2, h⟩ := leto h
    refine qS 8 rfl (ok_buildSlice_s (xs := [(.tmp 7)]) d_el72 · rfl rfl (by decide) (.cons (.tmp rfl) Evs.nil) rfl rfl hp2) ?_
    try dsimp only [w0, w1, w2, w3]
    obtain ⟨p3, hp3, h⟩ := bindo h
    refine qS 9 rfl (ok_str_of_bytes (s := (p2.1)) · d_tu72 d_tu5 d_tu9 (.tmp rfl) hp3) ?_
    refine qS 2 rfl (ok_assign · (.tmp rfl)) ?_
    refine hr_region_end ?_
    try dsimp only [w0, w1, w2, w3]
    cases h
    exact q_ret rfl at_.at_ rfl (res1 rfl rfl) ⟨rfl, rfl⟩
  · refine q_cond_f rfl (.tmp rfl) (decide_eq_false hc1) ?_
    refine q_skipc rfl ?_
    refine q_seq rfl ?_
    refine x_start (cls := [0, 0, 0, 0, 0, 0, 0, 2, 1, 0, 0]) (rk := [0, 1, 2, 3, 4, 5, 6, 7, 8, 9, 10]) rfl (by kernel_rfl) ?_
    refine yf 10 [0] rfl (ok_move · (.tmp rfl)) ?_
    refine yf 11 [10] rfl (ok_quo · (.tmp rfl) (.int _ _) (by decide)) ?_
    obtain ⟨p4, hp4, h⟩ := bindo h
    refine x_go (f_call (dst := some 12) (ts := [11]) rfl (by kernel_rfl) (.func _) (.cons (.tmp rfl) Evs.nil) (fun _ => (HInv.static at_ body (hdg hp4)))) rfl ?_
    refine yf 13 [0] rfl (ok_move · (.tmp rfl)) ?_
    try dsimp only [w0, w1, w2, w3]
    refine yf 14 [13] rfl (ok_rem · (.tmp rfl) (.int _ _) (by decide)) ?_
    refine yf 15 [14] rfl (ok_ibin · (.int _ _) (.tmp rfl) rfl) ?_
    refine yf 16 [15] rfl (ok_conv_int · d_tu3 d_tu5 (.tmp rfl)) ?_
    obtain ⟨p5, hp5, h⟩ := leto h
    refine ye 17 [16] rfl (ok_buildSlice_s (xs := [(.tmp 16)]) d_el72 · rfl rfl (by decide) (.cons (.tmp rfl) Evs.nil) rfl rfl hp5) ?_
    try dsimp only [w0, w1, w2, w3]
    obtain ⟨p6, hp6, h⟩ := bindo h
    refine yr 18 [17] rfl (ok_str_of_bytes (s := (p5.1)) · d_tu72 d_tu5 d_tu9 (.tmp rfl) hp6) ?_
    obtain ⟨hg7, h⟩ := gd h
    refine yf 19 [12, 18] rfl (ok_sadd · (.tmp rfl) (.tmp rfl) hg7) ?_
    refine yf 2 [19] rfl (ok_assign · (.tmp rfl)) ?_
    refine x_rest rfl ?_
    refine hr_region_end ?_
    try dsimp only [w0, w1, w2, w3]
    cases h
    exact q_ret rfl at_.at_ rfl (res1 rfl rfl) ⟨rfl, rfl⟩
end
end rollcallref01_Digits_b
def digF : Nat → Int → Option (List UInt8)
  | 0, _ => none
  | n + 1, x => if x < 10 then some [UInt8.ofNat (w8 (w64 (48 + x))).toNat] else Option.bind (digF n (w64 (Int.tdiv x 10))) fun a => if a.length + 1 ≤ 9223372036854775807 then some (a ++ [UInt8.ofNat (w8 (w64 (48 + Int.tmod x 10))).toNat]) else none
theorem lit_text (S : HS) (b : Int) : HS.text (S.lit [[.int .u8 b]] 1).2 (S.lit [[.int .u8 b]] 1).1 = some [UInt8.ofNat b.toNat] := by
  simp [HS.text, HS.lit, HS.rows, HS.new, HS.newM, bytesOf, byteRow]
theorem digF_snd {base : Nat} {W0 : World} : ∀ n, rollcallref01_Digits_b.Good base W0 (digF n) := by
  intro n
  induction n with
  | zero => intro _ _ _ _ h; cases h
  | succ n ih =>
    intro β0 S x p h
    have hf : ∃ b : Int, rollcallref01_Digits_b.f (digF n) 0 x S = some (p, (S.lit [[.int .u8 b]] 1).2) := by
      unfold rollcallref01_Digits_b.f
      rw [digF] at h
      by_cases hx : x < 10
      · rw [if_pos hx] at h ⊢
        cases h
        exact ⟨_, by simp only [letv]; rw [lit_text]; rfl⟩
      · rw [if_neg hx] at h ⊢
        obtain ⟨a, ha, h⟩ := bindo h
        obtain ⟨hg, h⟩ := gd h
        cases h
        refine ⟨w8 (w64 (48 + Int.tmod x 10)), ?_⟩
        rw [ha, Option.bind_some]
        simp only [letv]
        rw [lit_text, Option.bind_some, if_pos (by simpa using hg)]
    obtain ⟨b, hf⟩ := hf
    exact HCall.forget ((rollcallref01_Digits_b.snd ih hf).mono fun v S1 ⟨h1, h2⟩ => ⟨h1, h2 ▸ Ext.lit _ _ _⟩)
namespace rollcallref01_Digits
theorem at_ : FnAt Try.prog 10 Try.f10 := ⟨Try.func10, by kernel_rfl⟩
theorem body : Try.f10.body = some ((Try.f10.body).getD .skip) := by kernel_rfl
def f (x0 : Int) : Option (List UInt8) := digF 30 x0
theorem snd {base : Nat} {W0 : World} {β0 : Bt} {x0 : Int} {S : HS} {p : List UInt8} (h : f x0 = some p) : HCall Try.prog base W0 β0 10 [(.int .i64 x0)] S (fun v S1 => v = (.str p) ∧ S1 = S) := digF_snd 30 h
end rollcallref01_Digits
end Go.Proofs.Ytlfdaflngmkldaa.X
