/- strings.IndexRune of a rune that is no ASCII byte, in the text "*?". strings.IndexAny and ContainsAny of any bytes, with "*?". -/
import Derived.Shelf.Strings.IndexAnyAll
import Derived.Laws.Runes
import Derived.Shelf.Small.Utf8
import Derived.WalkMore
import Derived.Shelf.RegionOpenPlain
import Derived.Test.YtgplnlknejbglaaDoorPart8
namespace Go.Proofs.YtgplnlknejbglaaDoor.X
open Go.Proofs.YtgplnlknejbglaaDoor.HL Go.RowKit Go.Shelf Go.Lib Go.Proofs
set_option linter.unusedVariables false
section
variable {P : Program} {ρ : Ren}
def starQ : ByteArray := ⟨#[42,63]⟩
set_option maxHeartbeats 2000000 in
set_option maxRecDepth 1000000 in
theorem indexRune_bad (L : Lays.n152 P ρ) (w : World) : Calls P (ρ.f 152) #[.string starQ,.int .i32 65533] w fun e w' => e = .returned (.int .i64 (-1)) ∧ ∃ pos,w' = w.iter starQ pos := by
 have t3 := L.t3; have a3 := L.a3; have z3 := L.z3; have v3 := L.v3
 have t4 := L.t4; have a4 := L.a4; have z4 := L.z4; have v4 := L.v4
 have t5 := L.t5; have a5 := L.a5; have z5 := L.z5; have v5 := L.v5
 have t9 := L.t9; have a9 := L.a9; have z9 := L.z9; have v9 := L.v9
 have t21 := L.t21; have a21 := L.a21; have z21 := L.z21; have v21 := L.v21
 go_enter L.f152,Body.n152_ntmps ρ
 go_wp2
 go_loopg [5,6] 2 (fun g _ _ wx => ∃ i : Nat,i + g = 2 ∧ wx = w.iter starQ i)
 case atStart => exact ⟨0,by omega,rfl⟩
 case round =>
  obtain ⟨i,hig,rfl⟩ := hrel
  cases gk with
  | zero =>
   obtain rfl : i = 2 := by omega
   have hnx := fun ty => run_next_end (P := P) w starQ 2 ty (by decide)
   go_wp2
   go_ret
   exact ⟨rfl,_,rfl⟩
  | succ g =>
   have hi2 : i = 0 ∨ i = 1 := by omega
   rcases hi2 with rfl | rfl
   ·have hnx : ∀ ty,(Instr.next (.pointer (some ⟨w.heap.size,0,none⟩)) true ty).run P (w.iter starQ 0) = .ok (.tuple #[.bool true,.int .i64 (0 : Nat),.int .i32 42]) (w.iter starQ 1) := fun ty => run_next_ascii (P := P) w starQ 0 ty (by decide) (by decide)
    go_wp2
    go_roundg g
    case measure => omega
    case rel => exact ⟨1,by omega,rfl⟩
   ·have hnx : ∀ ty,(Instr.next (.pointer (some ⟨w.heap.size,0,none⟩)) true ty).run P (w.iter starQ 1) = .ok (.tuple #[.bool true,.int .i64 (1 : Nat),.int .i32 63]) (w.iter starQ 2) := fun ty => run_next_ascii (P := P) w starQ 1 ty (by decide) (by decide)
    go_wp2
    go_roundg g
    case measure => omega
    case rel => exact ⟨2,by omega,rfl⟩
set_option maxHeartbeats 4000000 in
set_option maxRecDepth 1000000 in
theorem indexRune_wide (L : Lays.n152 P ρ) (r : Int) (w : World) (h0 : 128 ≤ r) (h1 : r ≠ 65533) : Calls P (ρ.f 152) #[.string starQ,.int .i32 r] w fun e w' => e = .returned (.int .i64 (-1)) ∧ Below w.heap.size w w' := by
 have mixed := L.mixed
 have t3 := L.t3; have a3 := L.a3; have z3 := L.z3; have v3 := L.v3
 have t4 := L.t4; have a4 := L.a4; have z4 := L.z4; have v4 := L.v4
 have t5 := L.t5; have a5 := L.a5; have z5 := L.z5; have v5 := L.v5
 have t9 := L.t9; have a9 := L.a9; have z9 := L.z9; have v9 := L.v9
 have t21 := L.t21; have a21 := L.a21; have z21 := L.z21; have v21 := L.v21
 have e137 : ∀ args w,(callFunc (ρ.f 137) args).run P w = .ok (.enter (ρ.f 137) args) w := enters_of L.f137 (by kernel_rfl) rfl
 have e119 : ∀ args w,(callFunc (ρ.f 119) args).run P w = .ok (.enter (ρ.f 119) args) w := enters_of L.f119 (by kernel_rfl) rfl
 go_enter L.f152,Body.n152_ntmps ρ
 cases hv : Lib.validRune r
 ·go_wp2_with (go_at_fn (ρ.f 119); refine (Any.utf8_ValidRune { L with } _ _).mono ?_; rintro e w' ⟨rfl,hw⟩; rw [hw,hv])
  go_ret
  exact ⟨rfl,Below.refl _ _⟩
 ·have hv2 : Utf8.valid r = true := by
   rw [validRune_eq]; unfold validRune; unfold Lib.validRune at hv
   exact hv
  obtain ⟨f1,f2,f3⟩ := encode_facts r hv2 h0
  have hconv : (Go.convert (ρ.t 21) (ρ.t 9) (.int .i32 r)).run P w = .ok (.string (Utf8.encode r)) w := run_convert_int_string w _ _ _ _ (by simp [t21]) t9
  generalize hE : Utf8.encode r = E at f1 f2 f3 hconv
  have hw1 : IntKind.i64.wrap ((E.size : Int) - 1) = (E.size : Int) - 1 := wrap_small _ (by omega) (by omega)
  by_cases h2 : E.size = 2
  ·obtain ⟨b0,b1,rfl⟩ : ∃ b0 b1 : UInt8,E = ⟨#[b0,b1]⟩ := by
    obtain ⟨⟨l⟩⟩ := E
    match l,h2 with
    | [a,b],_ => exact ⟨a,b,rfl⟩
   have hb1 : 128 ≤ b1.toNat := f3 (by show (2 : Nat) - 1 < 2; decide)
   have hne : ((63 : Int) == (b1.toNat : Int)) = false := beq_eq_false_iff_ne.2 (by omega)
   go_wp2_with (go_at_fn (ρ.f 119); refine (Any.utf8_ValidRune { L with } _ _).mono ?_; rintro e w' ⟨rfl,hw⟩; rw [hw,hv])
   subst hw
   go_step3
   go_wp2
   go_loopg [9,10,11,12] 0 (fun g v9 _ _ _ wx => g = 0 ∧ v9 = .int .i64 1 ∧ wx = w')
   case atStart => exact ⟨rfl,rfl,rfl⟩
   case round =>
    obtain ⟨rfl,rfl,rfl⟩ := hrel
    go_wp2
    go_step3
    go_wp2
    go_region_o
    have hsq : (((starQ[1]'(by decide)).toNat : Int) != (((⟨#[b0,b1]⟩ : ByteArray)[1]'(by show 1 < 2; decide)).toNat : Int)) = true := by
     show ((63 : Int) != (b1.toNat : Int)) = true
     rw [bne_iff_ne]; omega
    go_wp2
    go_region_with_o (go_at_fn (ρ.f 137); refine (Any.strings_IndexByte { L with } _ _ _).mono ?_; rintro e w2 ⟨rfl,hw2⟩; rw [hw2])
    all_goals
     have hix : ∀ c,Lib.indexByte (List.take (starQ.size - 2) (List.drop 2 starQ.data.toList)) c = -1 := fun _ => rfl
     go_wp2
     rw [Exit.noGoto_ret]
     simp only [Exit.inBlock,Exit.then]
     rw [Exit.noGoto_ret]
     go_ret
     exact ⟨rfl,(Below.refl _ _).drew.drew⟩
  ·have hlt : ¬ ((E.size : Int) - 1 < 2) := by omega
   go_wp2_with (go_at_fn (ρ.f 119); refine (Any.utf8_ValidRune { L with } _ _).mono ?_; rintro e w' ⟨rfl,hw⟩; rw [hw,hv])
   subst hw
   go_step3
   go_wp2
   go_loopg [9,10,11,12] 0 (fun g v9 _ _ _ wx => g = 0 ∧ v9 = .int .i64 ((E.size : Int) - 1) ∧ wx = w')
   case atStart => exact ⟨rfl,rfl,rfl⟩
   case round =>
    obtain ⟨rfl,rfl,rfl⟩ := hrel
    have hlt2 : ¬ ((E.size : Int) - 1 < 2) := by omega
    go_wp2
    go_ret
    exact ⟨rfl,Below.refl _ _⟩
end
end Go.Proofs.YtgplnlknejbglaaDoor.X
namespace Go.Proofs.YtgplnlknejbglaaDoor.X
open Go.Proofs.YtgplnlknejbglaaDoor.HL Go.RowKit Go.Shelf Go.Lib Go.Proofs
set_option linter.unusedVariables false
section
variable {P : Program} {ρ : Ren}
theorem run_next_at (wx : World) (b : Nat) (s : ByteArray) (pos : Nat) (ty : TypeId) (hb : wx.heap[b]? = some (.stringIter s pos)) (h : pos < s.size) :
  (Instr.next (.pointer (some ⟨b,0,none⟩)) true ty).run P wx = .ok (.tuple #[.bool true,.int .i64 pos,.int .i32 (Utf8.decode s pos).1]) { wx with heap := wx.heap.setIfInBounds b (.stringIter s (pos + (Utf8.decode s pos).2)) } := by
 cases hd : Utf8.decode s pos with | mk r n =>
 simp only [Instr.next,getObj,setObj,Sem.run_bind,Sem.run,hb,Result.andThen,h,if_true,hd]
 simp [goInt,Sem.run,hb]
theorem run_next_over (wx : World) (b : Nat) (s : ByteArray) (pos : Nat) (ty : TypeId) (hb : wx.heap[b]? = some (.stringIter s pos)) (h : ¬ pos < s.size) :
  (Instr.next (.pointer (some ⟨b,0,none⟩)) true ty).run P wx = .ok (.tuple #[.bool false]) wx := by
 simp [Instr.next,getObj,Sem.run,hb,h]
/-- What a byte of 128 or more begins. -/
theorem decode_wide (s : ByteArray) (pos : Nat) (h : pos < s.size) (h128 : 128 ≤ (s[pos]'h).toNat) :
  128 ≤ (Utf8.decode s pos).1 ∧ 1 ≤ (Utf8.decode s pos).2 ∧ pos + (Utf8.decode s pos).2 ≤ s.size ∧ ∀ j,pos ≤ j → j < pos + (Utf8.decode s pos).2 → ∀ b,s.data.toList[j]? = some b → 128 ≤ b.toNat := by
 have e0 : ∀ k,pos + k < s.size → s.data.toList[pos + k]? = some (s.get! (pos + k)) := fun k hk => by
  rw [Lib.data_getElem? s _ hk]
  congr 1
  show _ = s.get! (pos + k)
  simp [ByteArray.get!,getElem!_pos,hk]
  rfl
 have b0 : 128 ≤ (s.get! (pos + 0)).toNat := by
  have : s.get! (pos + 0) = s[pos]'h := by
   show s.get! pos = _
   simp [ByteArray.get!,getElem!_pos,h]
   rfl
  rw [this]; exact h128
 have one : ∀ r : Nat,128 ≤ r → 128 ≤ ((r,1) : Nat × Nat).1 ∧ 1 ≤ ((r,1) : Nat × Nat).2 ∧ pos + ((r,1) : Nat × Nat).2 ≤ s.size ∧ ∀ j,pos ≤ j → j < pos + ((r,1) : Nat × Nat).2 → ∀ b,s.data.toList[j]? = some b → 128 ≤ b.toNat := by
  intro r hr
  refine ⟨hr,Nat.le_refl _,h,fun j h1 h2 b hb => ?_⟩
  simp only at h2
  have hj : j = pos + 0 := by omega
  rw [hj,e0 0 h] at hb; cases hb; exact b0
 have cont : ∀ k,(decide (pos + k < s.size) && (s.get! (pos + k)).toNat / 64 == 2) = true → pos + k < s.size ∧ 128 ≤ (s.get! (pos + k)).toNat := by
  intro k hk
  simp at hk
  omega
 unfold Utf8.decode
 simp only
 rw [if_neg (by omega)]
 split
 ·rename_i hc
  rw [Bool.and_eq_true] at hc
  obtain ⟨k1,k2⟩ := cont 1 hc.2
  split
  ·rename_i hr
   refine ⟨by simpa using hr,by simp,by simp only; omega,fun j h1 h2 b hb => ?_⟩
   simp only at h2
   have : j = pos + 0 ∨ j = pos + 1 := by omega
   rcases this with hj | hj
   ·rw [hj,e0 0 h] at hb; cases hb; exact b0
   ·rw [hj,e0 1 k1] at hb; cases hb; exact k2
  ·exact one _ (by decide)
 ·split
  ·rename_i hc
   rw [Bool.and_eq_true,Bool.and_eq_true] at hc
   obtain ⟨k1,k2⟩ := cont 1 hc.1.2
   obtain ⟨m1,m2⟩ := cont 2 hc.2
   split
   ·rename_i hr
    rw [Bool.and_eq_true] at hr
    refine ⟨by have := hr.1; simp at this ⊢; omega,by simp,by simp only; omega,fun j h1 h2 b hb => ?_⟩
    simp only at h2
    have : j = pos + 0 ∨ j = pos + 1 ∨ j = pos + 2 := by omega
    rcases this with hj | hj | hj
    ·rw [hj,e0 0 h] at hb; cases hb; exact b0
    ·rw [hj,e0 1 k1] at hb; cases hb; exact k2
    ·rw [hj,e0 2 m1] at hb; cases hb; exact m2
   ·exact one _ (by decide)
  ·split
   ·rename_i hc
    rw [Bool.and_eq_true,Bool.and_eq_true,Bool.and_eq_true] at hc
    obtain ⟨k1,k2⟩ := cont 1 hc.1.1.2
    obtain ⟨m1,m2⟩ := cont 2 hc.1.2
    obtain ⟨n1,n2⟩ := cont 3 hc.2
    split
    ·rename_i hr
     rw [Bool.and_eq_true] at hr
     refine ⟨by have := hr.1; simp at this ⊢; omega,by simp,by simp only; omega,fun j h1 h2 b hb => ?_⟩
     simp only at h2
     have : j = pos + 0 ∨ j = pos + 1 ∨ j = pos + 2 ∨ j = pos + 3 := by omega
     rcases this with hj | hj | hj | hj
     ·rw [hj,e0 0 h] at hb; cases hb; exact b0
     ·rw [hj,e0 1 k1] at hb; cases hb; exact k2
     ·rw [hj,e0 2 m1] at hb; cases hb; exact m2
     ·rw [hj,e0 3 n1] at hb; cases hb; exact n2
    ·exact one _ (by decide)
   ·exact one _ (by decide)
/-- Where a rune stands in "*?". -/
def qAt (r : Int) : Int := if r = 42 then 0 else if r = 63 then 1 else -1
set_option maxHeartbeats 1000000 in
theorem indexRune_q (L : Lays.n152 P ρ) (r : Int) (w : World) (h0 : 0 ≤ r) : Calls P (ρ.f 152) #[.string starQ,.int .i32 r] w fun e w' => e = .returned (.int .i64 (qAt r)) ∧ Below w.heap.size w w' := by
 by_cases h1 : r < 128
 ·refine (Any.strings_IndexRune_ascii L starQ r w h0 h1).mono ?_
  rintro e w' ⟨rfl,rfl⟩
  refine ⟨?_,Below.refl _ _⟩
  have hk : ∀ k : Nat,k < 128 → Lib.indexByte starQ.data.toList k.toUInt8 = qAt k := by
   simp only [show starQ.data.toList = [42,63] from rfl]
   decide
  obtain ⟨k,rfl⟩ := Int.eq_ofNat_of_zero_le h0
  rw [← hk k (by omega)]
  simp
 ·have hq : qAt r = -1 := by unfold qAt; rw [if_neg (by omega),if_neg (by omega)]
  rw [hq]
  by_cases h2 : r = 65533
  ·subst h2
   refine (indexRune_bad L w).mono ?_
   rintro e w' ⟨rfl,pos,rfl⟩
   exact ⟨rfl,(Below.refl _ _).alloc (Nat.le_refl _) _⟩
  ·exact indexRune_wide L r w (by omega) h2
theorem decode_step (s : ByteArray) (i : Nat) (h : i < s.size) (hno : Lib.NoAny s.data.toList [42,63] i) :
  1 ≤ (Utf8.decode s i).2 ∧ i + (Utf8.decode s i).2 ≤ s.size ∧ (qAt (Utf8.decode s i).1 < 0 → Lib.NoAny s.data.toList [42,63] (i + (Utf8.decode s i).2)) ∧ (0 ≤ qAt (Utf8.decode s i).1 → ∃ x,s.data.toList[i]? = some x ∧ ([42,63] : List UInt8).contains x = true) := by
 by_cases hx : (s[i]'h).toNat < 128
 ·rw [decode_ascii s i h hx]
  have hl := Lib.data_getElem? s i h
  generalize s[i]'h = x at hx hl
  have hc : ∀ k : Nat,k < 128 → (qAt k < 0 → ([42,63] : List UInt8).contains k.toUInt8 = false) ∧ (0 ≤ qAt k → ([42,63] : List UInt8).contains k.toUInt8 = true) := by decide
  have hb : x.toNat.toUInt8 = x := by simp
  have h2 := hc x.toNat hx
  rw [hb] at h2
  exact ⟨Nat.le_refl _,h,fun hq => hno.succ hl (h2.1 hq),fun hq => ⟨x,hl,h2.2 hq⟩⟩
 ·obtain ⟨h1,h2,h3,h4⟩ := decode_wide s i h (by omega)
  have hq : qAt (Utf8.decode s i).1 = -1 := by unfold qAt; rw [if_neg (by omega),if_neg (by omega)]
  refine ⟨h2,h3,fun _ j b hj hb => ?_,fun hh => by rw [hq] at hh; exact absurd hh (by decide)⟩
  by_cases hji : j < i
  ·exact hno j b hji hb
  ·have := h4 j (by omega) hj b hb
   simp only [List.contains_cons,List.contains_nil,Bool.or_false,Bool.or_eq_false_iff,beq_eq_false_iff_ne,ne_eq]
   constructor <;> rintro rfl <;> simp at this
set_option maxHeartbeats 8000000 in
set_option maxRecDepth 1000000 in
/-- s of at most 8 bytes, any bytes. -/
theorem indexAny_short2 (L : Lays.n153 P ρ) (s : ByteArray) (w : World) (h8 : s.size ≤ 8) :
  Calls P (ρ.f 153) #[.string s,.string starQ] w fun e w' => e = .returned (.int .i64 (Lib.indexAny s.data.toList [42,63])) ∧ Below w.heap.size w w' := by
 have hemp : starQ.toList.isEmpty = false := by rw [Lib.toList_data]; rfl
 have hn1 : ((starQ.size : Int) == 1) = false := rfl
 have hq2 : (0 : Int) < (starQ.size : Int) := by decide
 have h8z : decide ((8 : Int) < (s.size : Int)) = false := decide_eq_false (by omega)
 have t3 := L.t3; have a3 := L.a3; have z3 := L.z3; have v3 := L.v3
 have t4 := L.t4; have a4 := L.a4; have z4 := L.z4; have v4 := L.v4
 have t5 := L.t5; have a5 := L.a5; have z5 := L.z5; have v5 := L.v5
 have t9 := L.t9; have a9 := L.a9; have z9 := L.z9; have v9 := L.v9
 have t21 := L.t21; have a21 := L.a21; have z21 := L.z21; have v21 := L.v21
 have e152 : ∀ args w,(callFunc (ρ.f 152) args).run P w = .ok (.enter (ρ.f 152) args) w := enters_of L.f152 (by kernel_rfl) rfl
 have e226 : ∀ args w,(callFunc (ρ.f 226) args).run P w = .ok (.enter (ρ.f 226) args) w := enters_of L.f226 (by kernel_rfl) rfl
 go_enter L.f153,Body.n153_ntmps ρ
 go_wp2_with (go_at_fn (ρ.f 226); refine (Any.strings_shouldUseASCIISet { L with } _ _).mono ?_; rintro e w' ⟨rfl,hw⟩; rw [hw,h8z])
 go_loopg [9,10] s.size (fun g _ _ wx => ∃ i : Nat,i ≤ s.size ∧ s.size - i ≤ g ∧ wx.heap[w.heap.size]? = some (.stringIter s i) ∧ Below w.heap.size w wx ∧ Lib.NoAny s.data.toList [42,63] i)
 case atStart => exact ⟨0,by omega,by omega,Array.getElem?_push_size,(Below.refl _ _).alloc (Nat.le_refl _) _,Lib.NoAny.zero _ _⟩
 case round =>
  obtain ⟨i,hile,hig,hit,hB,hno⟩ := hrel
  have HN : Aside (Lib.NoAny s.data.toList [42,63] i) := hno
  clear hno
  by_cases hi : i < s.size
  ·cases gk with
   | zero => omega
   | succ g =>
    have hnx := fun ty => run_next_at (P := P) wr w.heap.size s i ty hit hi
    obtain ⟨d1,d2,d3,d4⟩ := decode_step s i hi HN.out
    have hit2 : w.heap.size < wr.heap.size := (Array.getElem?_eq_some_iff.1 hit).1
    generalize hr : (Utf8.decode s i).1 = r at d3 d4 hnx
    generalize hn : (Utf8.decode s i).2 = n at d1 d2 d3 hnx
    have hB2 : Below w.heap.size w { wr with heap := wr.heap.setIfInBounds w.heap.size (.stringIter s (i + n)) } :=
     hB.trans ⟨rfl,rfl,rfl,by simp,fun k hk => by simp only [Array.getElem?_setIfInBounds]; rw [if_neg (by omega)]⟩
    have hit3 : ({ wr with heap := wr.heap.setIfInBounds w.heap.size (.stringIter s (i + n)) } : World).heap[w.heap.size]? = some (.stringIter s (i + n)) := by simp only [Array.getElem?_setIfInBounds]; simp [hit2]
    have hsz3 : ({ wr with heap := wr.heap.setIfInBounds w.heap.size (.stringIter s (i + n)) } : World).heap.size = wr.heap.size := by simp
    generalize hwy : ({ wr with heap := wr.heap.setIfInBounds w.heap.size (.stringIter s (i + n)) } : World) = wy at hnx hB2 hit3 hsz3
    have Hd : Aside ((qAt r < 0 → Lib.NoAny s.data.toList [42,63] (i + n)) ∧ (0 ≤ qAt r → ∃ x,s.data.toList[i]? = some x ∧ ([42,63] : List UInt8).contains x = true)) := ⟨d3,d4⟩
    clear d3 d4
    by_cases hq : 0 ≤ qAt r
    ·go_wp2_with (go_at_fn (ρ.f 152); refine (indexRune_q { L with } (r : Int) wy (by omega)).mono ?_; rintro e w' ⟨rfl,hw⟩)
     go_ret
     obtain ⟨x,hx1,hx2⟩ := Hd.out.2 hq
     exact ⟨by rw [Lib.indexAny_hit HN.out hx1 hx2]; rfl,hB2.trans (hw.mono (by omega))⟩
    ·go_wp2_with (go_at_fn (ρ.f 152); refine (indexRune_q { L with } (r : Int) wy (by omega)).mono ?_; rintro e w' ⟨rfl,hw⟩)
     go_roundg g
     case measure => omega
     case rel => exact ⟨i + n,d2,by omega,(hw.block _ (by omega)).trans hit3,hB2.trans (hw.mono (by omega)),Hd.out.1 (by omega)⟩
  ·obtain rfl : i = s.size := by omega
   have hnx := fun ty => run_next_over (P := P) wr w.heap.size s s.size ty hit hi
   go_wp2
   go_ret
   exact ⟨by rw [Lib.indexAny_none (by rw [← Lib.size_eq]; exact HN.out)]; rfl,hB⟩
theorem indexAny_q (L : Lays.n153 P ρ) (h116 : (P.info? (ρ.t 116)).map (fun i => (i.zero,i.size)) = some (some (.agg (Array.replicate 256 (.bool false))),256)) (s : ByteArray) (w : World) (hs : s.size < 4294967281) :
  Calls P (ρ.f 153) #[.string s,.string starQ] w fun e w' => e = .returned (.int .i64 (Lib.indexAny s.data.toList [42,63])) ∧ Below w.heap.size w w' := by
 by_cases h8 : s.size ≤ 8
 ·exact indexAny_short2 L s w h8
 ·refine (Any.strings_IndexAny_long L (zero_of_info h116).1 (zero_of_info h116).2 s starQ w (by decide) (by omega) hs (by decide) ?_).mono ?_
  ·intro j b hb
   have : starQ.data.toList = [42,63] := rfl
   rw [this] at hb
   rcases j with _ | _ | j <;> simp at hb <;> subst hb <;> decide
  ·rintro e w' ⟨h1,h2⟩
   refine ⟨h1,?_⟩
   rw [h2]
   exact ((Below.refl _ _).alloc (Nat.le_refl _) _).alloc (by simp) _
set_option maxHeartbeats 1000000 in
theorem containsAny_q (L : Lays.n150 P ρ) (h116 : (P.info? (ρ.t 116)).map (fun i => (i.zero,i.size)) = some (some (.agg (Array.replicate 256 (.bool false))),256)) (s : ByteArray) (w : World) (hs : s.size < 4294967281) :
  Calls P (ρ.f 150) #[.string s,.string starQ] w fun e w' => e = .returned (.bool (Lib.containsAny s.data.toList [42,63])) ∧ Below w.heap.size w w' := by
 have c := indexAny_q { L with } h116 s w hs
 have t3 := L.t3; have a3 := L.a3; have z3 := L.z3; have v3 := L.v3
 have t4 := L.t4; have a4 := L.a4; have z4 := L.z4; have v4 := L.v4
 have t9 := L.t9; have a9 := L.a9; have z9 := L.z9; have v9 := L.v9
 have e153 : ∀ args w,(callFunc (ρ.f 153) args).run P w = .ok (.enter (ρ.f 153) args) w := enters_of L.f153 (by kernel_rfl) rfl
 go_enter L.f150,Body.n150_ntmps ρ
 go_wp2_with (go_at_fn (ρ.f 153); refine c.mono ?_; rintro e w' ⟨rfl,hw⟩)
 go_ret
 exact ⟨rfl,hw⟩
end
end Go.Proofs.YtgplnlknejbglaaDoor.X
