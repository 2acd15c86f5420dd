/- The layer fold: its laws, plain. -/
import Derived.Test.YtigobginglaieaaFold2
import Derived.Test.YtigobginglaieaaHLn
import Derived.Test.YtigobginglaieaaHLp
namespace Go.Proofs.Ytigobginglaieaa.X
open Go.Proofs.Ytigobginglaieaa.HL
set_option linter.unusedVariables false

def low (b : UInt8) : UInt8 := if 65 ≤ b.toNat ∧ b.toNat ≤ 93 then b + 32 else if b.toNat = 126 then 94 else b
theorem all_bytes {p : UInt8 → Prop} (h : ∀ n : Fin 256, p (UInt8.ofNat n.val)) (b : UInt8) : p b := by
  have := h ⟨b.toNat, b.toNat_lt⟩
  simpa using this
theorem byte_spec (b : UInt8) : fold_Byte.f (b.toNat : Int) = some ((low b).toNat : Int) :=
  all_bytes (p := fun b => fold_Byte.f (b.toNat : Int) = some ((low b).toNat : Int)) (by decide +kernel) b
theorem low_low (b : UInt8) : low (low b) = low b := all_bytes (p := fun b => low (low b) = low b) (by decide +kernel) b

def look (y : Nat) : List UInt8 → List UInt8 → Nat
  | a :: s, b :: t => if a.toNat = y then b.toNat else look y s t
  | _, _ => y
theorem refByte_loop {k y : Nat} {src dst : List UInt8} (hl : dst.length = src.length) (hs : src.length ≤ 100000) : ∀ (n i : Nat), src.length - i < n → i ≤ src.length →
    rollcallref01_Byte.L0 k n y src dst (i : Int) = some (look y (src.drop i) (dst.drop i) : Int) := by
  intro n
  induction n with
  | zero => intro i h; omega
  | succ n ih =>
    intro i h hi
    unfold rollcallref01_Byte.L0
    by_cases hlt : i < src.length
    · rw [if_pos (by omega), sat_lt hlt, Option.bind_some, List.drop_eq_getElem_cons hlt, List.drop_eq_getElem_cons (show i < dst.length by omega)]
      by_cases he : src[i].toNat = y
      · rw [if_pos (by omega), sat_lt (show i < dst.length by omega)]
        simp [look, he]
      · rw [if_neg (by omega), w64_id (by omega) (by omega)]
        have := ih (i + 1) (by omega) (by omega)
        rw [show ((i : Int) + 1) = ((i + 1 : Nat) : Int) by simp, this]
        simp [look, he]
    · rw [if_neg (by omega), List.drop_eq_nil_of_le (by omega)]
      simp [look]
theorem refByte_spec {k : Nat} (hk : 31 ≤ k) (b : UInt8) : rollcallref01_Byte.f k (b.toNat : Int) = some ((low b).toNat : Int) := by
  unfold rollcallref01_Byte.f
  have := refByte_loop (k := k) (y := b.toNat) (src := [65, 66, 67, 68, 69, 70, 71, 72, 73, 74, 75, 76, 77, 78, 79, 80, 81, 82, 83, 84, 85, 86, 87, 88, 89, 90, 91, 93, 92, 126]) (dst := [97, 98, 99, 100, 101, 102, 103, 104, 105, 106, 107, 108, 109, 110, 111, 112, 113, 114, 115, 116, 117, 118, 119, 120, 121, 122, 123, 125, 124, 94]) rfl (by decide) k 0 (by simp; omega) (by simp)
  refine this.trans ?_
  congr 2
  exact all_bytes (p := fun b => look b.toNat (List.drop 0 [65, 66, 67, 68, 69, 70, 71, 72, 73, 74, 75, 76, 77, 78, 79, 80, 81, 82, 83, 84, 85, 86, 87, 88, 89, 90, 91, 93, 92, 126]) (List.drop 0 [97, 98, 99, 100, 101, 102, 103, 104, 105, 106, 107, 108, 109, 110, 111, 112, 113, 114, 115, 116, 117, 118, 119, 120, 121, 122, 123, 125, 124, 94]) = (low b).toNat) (by decide +kernel) b

theorem row_of (b : UInt8) : [[HV.int .u8 (b.toNat : Int)]] = bytesRows [b] := rfl
theorem take_succ_map {x : List UInt8} {i : Nat} (h : i < x.length) : (x.take (i + 1)).map low = (x.take i).map low ++ [low x[i]] := by
  rw [List.take_succ_eq_append_getElem h, List.map_append]; rfl
theorem text_loop {k m : Nat} {x : List UInt8} (hx : x.length ≤ 100000) : ∀ (n i : Nat) (s : Sl) (S : HS), x.length - i < n → i ≤ x.length → m ≤ S.next → Vec m S 1 s (bytesRows ((x.take i).map low)) →
    ∃ S', fold_Text.L0 k n x s (x.length : Int) (i : Int) S = some (x.map low, S') ∧ Fr m S S' := by
  intro n
  induction n with
  | zero => intro i s S h; omega
  | succ n ih =>
    intro i s S h hi hm hv
    unfold fold_Text.L0
    by_cases hlt : i < x.length
    · rw [if_pos (by omega), sat_lt hlt, Option.bind_some, byte_spec, Option.bind_some, letv, row_of]
      have hl := Vec.lit (n := m) (z := 1) (S := S) (bytesRows [low x[i]]) hm
      rw [hl.rows, Option.bind_some]
      have hv2 : Vec m (S.lit (bytesRows [low x[i]]) 1).2 1 s (bytesRows ((x.take i).map low)) := hv.new _
      obtain ⟨s', S', e, hv3, hf⟩ := hv2.app (new := bytesRows [low x[i]]) (Nat.le_trans hm (lit_fr (n := 0) _ (Nat.zero_le _)).le) (by simp [bytesRows]; omega)
      rw [e, Option.bind_some, w64_id (by omega) (by omega), show ((i : Int) + 1) = ((i + 1 : Nat) : Int) by simp]
      rw [← bytesRows_app, ← take_succ_map hlt] at hv3
      have hf0 := (lit_fr (n := m) (z := 1) (S := S) (bytesRows [low x[i]]) hm).trans hf
      obtain ⟨S2, e2, hf2⟩ := ih (i + 1) s' S' (by omega) (by omega) (Nat.le_trans hm hf0.le) hv3
      exact ⟨S2, e2, hf0.trans hf2⟩
    · obtain rfl : i = x.length := by omega
      rw [List.take_length] at hv
      rw [if_neg (by omega), hv.text]
      exact ⟨S, rfl, Fr.refl _ _⟩
theorem text_spec {k m : Nat} {x : List UInt8} {S : HS} (hx : x.length ≤ 100000) (hk : x.length < k) (hm : m ≤ S.next) : ∃ S', fold_Text.f k x S = some (x.map low, S') ∧ Fr m S S' := by
  unfold fold_Text.f
  obtain ⟨s, S1, e, hv, hf⟩ := Vec.make (n := m) (S := S) (c := x.length) (zr := [.int .u8 0]) hm (by omega) (by omega)
  rw [e, Option.bind_some]
  obtain ⟨S2, e2, hf2⟩ := text_loop (k := k) (m := m) hx k 0 s S1 (by omega) (by omega) (Nat.le_trans hm hf.le) hv
  exact ⟨S2, e2, hf.trans hf2⟩
theorem refText_loop {k m : Nat} {x : List UInt8} (hx : x.length ≤ 100000) (hk : 31 ≤ k) : ∀ (n i : Nat) (S : HS), x.length - i < n → i ≤ x.length → m ≤ S.next →
    ∃ S', rollcallref01_Text.L0 k n x ((x.take i).map low) (i : Int) S = some (x.map low, S') ∧ Fr m S S' := by
  intro n
  induction n with
  | zero => intro i S h; omega
  | succ n ih =>
    intro i S h hi hm
    unfold rollcallref01_Text.L0
    by_cases hlt : i < x.length
    · rw [if_pos (by omega), sat_lt hlt, Option.bind_some, refByte_spec hk, Option.bind_some, letv, row_of]
      have hl := Vec.lit (n := m) (z := 1) (S := S) (bytesRows [low x[i]]) hm
      rw [hl.text, Option.bind_some, if_pos (by simp; omega), w64_id (by omega) (by omega), show ((i : Int) + 1) = ((i + 1 : Nat) : Int) by simp, ← take_succ_map hlt]
      have hf0 := lit_fr (n := m) (z := 1) (S := S) (bytesRows [low x[i]]) hm
      obtain ⟨S2, e2, hf2⟩ := ih (i + 1) _ (by omega) (by omega) (Nat.le_trans hm hf0.le)
      exact ⟨S2, e2, hf0.trans hf2⟩
    · rw [if_neg (by omega), show i = x.length by omega, List.take_length]
      exact ⟨S, rfl, Fr.refl _ _⟩
theorem refText_spec {k m : Nat} {x : List UInt8} {S : HS} (hx : x.length ≤ 100000) (hk : x.length < k) (hk2 : 31 ≤ k) (hm : m ≤ S.next) : ∃ S', rollcallref01_Text.f k x S = some (x.map low, S') ∧ Fr m S S' :=
  refText_loop hx hk2 k 0 S (by omega) (by omega) hm

def cmpL : List UInt8 → List UInt8 → Int
  | [], [] => 0
  | [], _ :: _ => -1
  | _ :: _, [] => 1
  | a :: s, b :: t => if (low a).toNat < (low b).toNat then -1 else if (low b).toNat < (low a).toNat then 1 else cmpL s t
theorem compare_loop {k : Nat} {x y : List UInt8} (hx : x.length ≤ 100000) : ∀ (n i : Nat), min x.length y.length - i < n → i ≤ min x.length y.length →
    fold_Compare.L0 k n x y (min x.length y.length : Nat) (i : Int) = some (cmpL (x.drop i) (y.drop i)) := by
  intro n
  induction n with
  | zero => intro i h; omega
  | succ n ih =>
    intro i h hi
    unfold fold_Compare.L0
    by_cases hlt : i < min x.length y.length
    · have h1 : i < x.length := by omega
      have h2 : i < y.length := by omega
      rw [if_pos (by omega), sat_lt h1, Option.bind_some, byte_spec, Option.bind_some, sat_lt h2, Option.bind_some, byte_spec, Option.bind_some, List.drop_eq_getElem_cons h1, List.drop_eq_getElem_cons h2, cmpL]
      by_cases c1 : (low x[i]).toNat < (low y[i]).toNat
      · rw [if_pos (by omega), if_pos c1]
      · rw [if_neg (by omega), if_neg c1]
        by_cases c2 : (low y[i]).toNat < (low x[i]).toNat
        · rw [if_pos (by omega), if_pos c2]
        · rw [if_neg (by omega), if_neg c2, w64_id (by omega) (by omega), show ((i : Int) + 1) = ((i + 1 : Nat) : Int) by simp]
          exact ih (i + 1) (by omega) (by omega)
    · rw [if_neg (by omega)]
      by_cases c1 : x.length < y.length
      · rw [if_pos (by omega), List.drop_eq_nil_of_le (show x.length ≤ i by omega), List.drop_eq_getElem_cons (show i < y.length by omega), cmpL]
      · rw [if_neg (by omega)]
        by_cases c2 : y.length < x.length
        · rw [if_pos (by omega), List.drop_eq_nil_of_le (show y.length ≤ i by omega), List.drop_eq_getElem_cons (show i < x.length by omega), cmpL]
        · rw [if_neg (by omega), List.drop_eq_nil_of_le (show y.length ≤ i by omega), List.drop_eq_nil_of_le (show x.length ≤ i by omega), cmpL]
theorem compare_spec {k : Nat} {x y : List UInt8} (hx : x.length ≤ 100000) (hk : x.length < k) : fold_Compare.f k x y = some (cmpL x y) := by
  unfold fold_Compare.f
  have := compare_loop (k := k) (y := y) hx k 0 (by omega) (by omega)
  rw [show mn (x.length : Int) (y.length : Int) = ((min x.length y.length : Nat) : Int) by unfold mn; split <;> omega]
  simpa using this
theorem cmpL_zero : ∀ (x y : List UInt8), cmpL x y = 0 ↔ x.map low = y.map low := by
  intro x
  induction x with
  | nil => intro y; cases y <;> simp [cmpL]
  | cons a s ih =>
    intro y
    cases y with
    | nil => simp [cmpL]
    | cons b t =>
      simp only [cmpL, List.map_cons, List.cons.injEq]
      by_cases c1 : (low a).toNat < (low b).toNat
      · rw [if_pos c1]
        constructor
        · intro h; omega
        · intro h; rw [h.1] at c1; omega
      · rw [if_neg c1]
        by_cases c2 : (low b).toNat < (low a).toNat
        · rw [if_pos c2]
          constructor
          · intro h; omega
          · intro h; rw [h.1] at c2; omega
        · rw [if_neg c2, ih]
          constructor
          · intro h; exact ⟨UInt8.toNat_inj.1 (by omega), h⟩
          · intro h; exact h.2
theorem same_spec {k : Nat} {x y : List UInt8} (hx : x.length ≤ 100000) (hk : x.length < k) : fold_Same.f k x y = some (decide (x.map low = y.map low)) := by
  unfold fold_Same.f
  by_cases hl : x.length = y.length
  · rw [if_pos (by omega), compare_spec hx hk, Option.bind_some, fold_Same.J0]
    simp [cmpL_zero]
  · rw [if_neg (by omega), fold_Same.J0]
    simp
    intro h
    have := congrArg List.length h
    simp at this
    omega
theorem prefix_spec {k : Nat} {x y : List UInt8} (hx : x.length ≤ 100000) (hk : x.length < k) : fold_Prefix.f k x y = some (decide (y.length ≤ x.length ∧ (x.take y.length).map low = y.map low)) := by
  unfold fold_Prefix.f
  by_cases hl : y.length ≤ x.length
  · rw [if_pos (by omega), if_pos ⟨by omega, by omega, by omega⟩]
    rw [show ssub x 0 (y.length : Int) = x.take y.length by simp [ssub]]
    rw [same_spec (by simp; omega) (by simp; omega), Option.bind_some, fold_Prefix.J0]
    simp [hl]
  · rw [if_neg (by omega), fold_Prefix.J0]
    simp
    intro h; omega

theorem awake_spec {k m : Nat} {S : HS} (hk : 100 ≤ k) (hm : m ≤ S.next) : ∃ S', rollcalllaw01_awake.f k S = some (true, S') ∧ Fr m S S' := by
  unfold rollcalllaw01_awake.f
  obtain ⟨S1, e, hf⟩ := text_spec (k := k) (m := m) (x := [65, 91, 98, 93, 126]) (S := S) (by decide) (by simp; omega) hm
  rw [e, Option.bind_some, if_pos (show List.map low [65, 91, 98, 93, 126] = [97, 123, 98, 125, 94] by decide), same_spec (by decide) (by simp; omega), Option.bind_some]
  rw [show decide (([78, 105, 99, 107, 91] : List UInt8).map low = ([110, 73, 67, 75, 123] : List UInt8).map low) = true by decide]
  rw [rollcalllaw01_awake.J0, if_pos rfl, same_spec (by decide) (by simp; omega), Option.bind_some]
  exact ⟨S1, by rw [rollcalllaw01_awake.J1]; simp; decide, hf⟩

theorem foldTexts_law (x : List UInt8) (S : HS) : ∃ S', rollcalllaw01_FoldTexts.f 1000 x S = some (true, S') := by
  unfold rollcalllaw01_FoldTexts.f
  obtain ⟨S1, e1, f1⟩ := awake_spec (k := 1000) (m := 0) (S := S) (by omega) (Nat.zero_le _)
  rw [e1, Option.bind_some, if_neg (by simp)]
  by_cases hl : 200 < x.length
  · rw [if_pos (by omega)]; exact ⟨_, rfl⟩
  rw [if_neg (by omega)]
  obtain ⟨S2, e2, f2⟩ := text_spec (k := 1000) (m := 0) (x := x) (S := S1) (by omega) (by omega) (Nat.zero_le _)
  obtain ⟨S3, e3, f3⟩ := refText_spec (k := 1000) (m := 0) (x := x) (S := S2) (by omega) (by omega) (by omega) (Nat.zero_le _)
  obtain ⟨S4, e4, f4⟩ := text_spec (k := 1000) (m := 0) (x := x.map low) (S := S3) (by simp; omega) (by simp; omega) (Nat.zero_le _)
  have hll : (x.map low).map low = x.map low := by simp [low_low]
  simp only [e2, e3, e4, Option.bind_some, if_true, rollcalllaw01_FoldTexts.J0, hll, decide_true]
  rw [same_spec (by omega) (by omega), Option.bind_some, rollcalllaw01_FoldTexts.J1]
  exact ⟨S4, by simp [low_low]⟩
theorem foldBytes_law (b : UInt8) (S : HS) : ∃ S', rollcalllaw01_FoldBytes.f 1000 (b.toNat : Int) S = some (true, S') := by
  unfold rollcalllaw01_FoldBytes.f
  obtain ⟨S1, e1, f1⟩ := awake_spec (k := 1000) (m := 0) (S := S) (by omega) (Nat.zero_le _)
  rw [e1, Option.bind_some, if_neg (by simp), byte_spec, Option.bind_some, refByte_spec (by omega), Option.bind_some, if_pos rfl, byte_spec, Option.bind_some, rollcalllaw01_FoldBytes.J0]
  exact ⟨S1, by simp [low_low]⟩

theorem map_low_append_inj {a b c d : List UInt8} (h : a.length = c.length) : (a ++ b).map low = (c ++ d).map low ↔ a.map low = c.map low ∧ b.map low = d.map low := by
  rw [List.map_append, List.map_append]
  constructor
  · intro e; exact List.append_inj e (by simp [h])
  · rintro ⟨e1, e2⟩; rw [e1, e2]
theorem halves_core {a b c d : List UInt8} (ha : a.length ≤ 60) (hb : b.length ≤ 60) (hc : c.length ≤ 60) (hd : d.length ≤ 60) (S : HS) : ∃ S', rollcalllaw01_FoldHalves.J2 1000 a b c d false S = some (true, S') := by
  unfold rollcalllaw01_FoldHalves.J2
  obtain ⟨S1, e1, f1⟩ := text_spec (k := 1000) (m := 0) (x := a ++ b) (S := S) (by simp; omega) (by simp; omega) (Nat.zero_le _)
  obtain ⟨S2, e2, f2⟩ := text_spec (k := 1000) (m := 0) (x := a) (S := S1) (by omega) (by omega) (Nat.zero_le _)
  obtain ⟨S3, e3, f3⟩ := text_spec (k := 1000) (m := 0) (x := b) (S := S2) (by omega) (by omega) (Nat.zero_le _)
  rw [if_neg (by simp), if_pos (by omega), e1, Option.bind_some, e2, Option.bind_some, e3, Option.bind_some, if_pos (by simp; omega), if_neg (by simp)]
  by_cases hl : a.length = c.length
  · rw [if_neg (by simp [hl]), if_pos (by omega), if_pos (by omega), same_spec (by simp; omega) (by simp; omega), Option.bind_some, same_spec (by omega) (by omega), Option.bind_some]
    by_cases hs : a.map low = c.map low
    · rw [if_pos (by simp [hs]), same_spec (by omega) (by omega), Option.bind_some, rollcalllaw01_FoldHalves.J4, if_neg (by simp [hl]), rollcalllaw01_FoldHalves.J3]
      exact ⟨S3, by simp only [map_low_append_inj hl, hs, true_and]; simp⟩
    · rw [if_neg (by simp [hs]), rollcalllaw01_FoldHalves.J4, if_neg (by simp [hl]), rollcalllaw01_FoldHalves.J3]
      exact ⟨S3, by simp only [map_low_append_inj hl, hs, false_and]; simp⟩
  · rw [if_pos (by simp; omega), rollcalllaw01_FoldHalves.J3]
    exact ⟨S3, rfl⟩
theorem foldHalves_law (a b c d : List UInt8) (S : HS) : ∃ S', rollcalllaw01_FoldHalves.f 1000 a b c d S = some (true, S') := by
  unfold rollcalllaw01_FoldHalves.f
  obtain ⟨S1, e1, f1⟩ := awake_spec (k := 1000) (m := 0) (S := S) (by omega) (Nat.zero_le _)
  rw [e1, Option.bind_some, if_neg (by simp)]
  have ht : ∀ S, rollcalllaw01_FoldHalves.J2 1000 a b c d true S = some (true, S) := fun S => by rw [rollcalllaw01_FoldHalves.J2, if_pos rfl]
  by_cases ha : a.length ≤ 60
  · rw [if_neg (by omega)]
    by_cases hb : b.length ≤ 60
    · rw [show decide ((b.length : Int) > 60) = false by simp; omega, rollcalllaw01_FoldHalves.J0, if_neg (by simp)]
      by_cases hc : c.length ≤ 60
      · rw [show decide ((c.length : Int) > 60) = false by simp; omega, rollcalllaw01_FoldHalves.J1, if_neg (by simp)]
        by_cases hd : d.length ≤ 60
        · rw [show decide ((d.length : Int) > 60) = false by simp; omega]
          exact halves_core ha hb hc hd S1
        · rw [show decide ((d.length : Int) > 60) = true by simp; omega]
          exact ⟨_, ht _⟩
      · rw [show decide ((c.length : Int) > 60) = true by simp; omega, rollcalllaw01_FoldHalves.J1, if_pos rfl]
        exact ⟨_, ht _⟩
    · rw [show decide ((b.length : Int) > 60) = true by simp; omega, rollcalllaw01_FoldHalves.J0, if_pos rfl, rollcalllaw01_FoldHalves.J1, if_pos rfl]
      exact ⟨_, ht _⟩
  · rw [if_pos (by omega), rollcalllaw01_FoldHalves.J0, if_pos rfl, rollcalllaw01_FoldHalves.J1, if_pos rfl]
    exact ⟨_, ht _⟩

theorem slt_irrefl : ∀ (x : List UInt8), slt x x = false := by
  intro x
  induction x with
  | nil => rfl
  | cons a s ih => simp [slt, ih]
theorem cmpL_slt : ∀ (x y : List UInt8), cmpL x y = if slt (x.map low) (y.map low) = true then -1 else if x.map low = y.map low then 0 else 1 := by
  intro x
  induction x with
  | nil => intro y; cases y <;> simp [cmpL, slt]
  | cons a s ih =>
    intro y
    cases y with
    | nil => simp [cmpL, slt]
    | cons b t =>
      simp only [cmpL, List.map_cons, slt, Bool.or_eq_true, decide_eq_true_eq, Bool.and_eq_true, beq_iff_eq, UInt8.lt_iff_toNat_lt, List.cons.injEq]
      by_cases c1 : (low a).toNat < (low b).toNat
      · simp [c1]
      · by_cases c2 : (low b).toNat < (low a).toNat
        · have hne : low a ≠ low b := fun h => by rw [h] at c2; omega
          simp [c1, c2, hne]
        · have heq : low a = low b := UInt8.toNat_inj.1 (by omega)
          rw [ih]
          simp [c1, c2, heq]
theorem refSame_spec {k m : Nat} {x y : List UInt8} {S : HS} (hx : x.length ≤ 1000) (hy : y.length ≤ 1000) (hk : 2000 ≤ k) (hm : m ≤ S.next) : ∃ S', rollcallref01_Same.f k x y S = some (decide (x.map low = y.map low), S') ∧ Fr m S S' := by
  unfold rollcallref01_Same.f
  obtain ⟨S1, e1, f1⟩ := refText_spec (k := k) (m := m) (x := x) (S := S) (by omega) (by omega) (by omega) hm
  obtain ⟨S2, e2, f2⟩ := refText_spec (k := k) (m := m) (x := y) (S := S1) (by omega) (by omega) (by omega) (Nat.le_trans hm f1.le)
  exact ⟨S2, by rw [e1, Option.bind_some, e2, Option.bind_some], f1.trans f2⟩
theorem refCompare_spec {k m : Nat} {x y : List UInt8} {S : HS} (hx : x.length ≤ 1000) (hy : y.length ≤ 1000) (hk : 2000 ≤ k) (hm : m ≤ S.next) : ∃ S', rollcallref01_Compare.f k x y S = some (cmpL x y, S') ∧ Fr m S S' := by
  unfold rollcallref01_Compare.f
  obtain ⟨S1, e1, f1⟩ := refText_spec (k := k) (m := m) (x := x) (S := S) (by omega) (by omega) (by omega) hm
  obtain ⟨S2, e2, f2⟩ := refText_spec (k := k) (m := m) (x := y) (S := S1) (by omega) (by omega) (by omega) (Nat.le_trans hm f1.le)
  refine ⟨S2, ?_, f1.trans f2⟩
  rw [e1, Option.bind_some, e2, Option.bind_some, cmpL_slt]
  by_cases c1 : slt (x.map low) (y.map low) = true
  · rw [if_pos c1, if_pos c1]
  · rw [if_neg c1, if_neg c1]
    by_cases c2 : x.map low = y.map low
    · rw [if_neg (by simp [c2]), if_pos c2]
    · rw [if_pos (by simp [c1, c2]), if_neg c2]
theorem compares_core {x y : List UInt8} (hx : x.length ≤ 100) (hy : y.length ≤ 100) (q : Bool) (hq : q = decide (y.length ≤ x.length ∧ (x.take y.length).map low = y.map low)) (S : HS) : ∃ S', rollcalllaw01_FoldCompares.J1 2000 x y q S = some (true, S') := by
  unfold rollcalllaw01_FoldCompares.J1
  obtain ⟨S1, e1, f1⟩ := refCompare_spec (k := 2000) (m := 0) (x := x) (y := y) (S := S) (by omega) (by omega) (by omega) (Nat.zero_le _)
  obtain ⟨S2, e2, f2⟩ := refSame_spec (k := 2000) (m := 0) (x := x) (y := y) (S := S1) (by omega) (by omega) (by omega) (Nat.zero_le _)
  rw [compare_spec (by omega) (by omega), Option.bind_some, e1, Option.bind_some, if_pos rfl, same_spec (by omega) (by omega), Option.bind_some, e2, Option.bind_some, rollcalllaw01_FoldCompares.J2, if_pos (by simp), prefix_spec (by omega) (by omega), Option.bind_some, rollcalllaw01_FoldCompares.J3, hq]
  exact ⟨S2, by simp⟩
theorem foldCompares_law (x y : List UInt8) (S : HS) : ∃ S', rollcalllaw01_FoldCompares.f 2000 x y S = some (true, S') := by
  unfold rollcalllaw01_FoldCompares.f
  obtain ⟨S1, e1, f1⟩ := awake_spec (k := 2000) (m := 0) (S := S) (by omega) (Nat.zero_le _)
  rw [e1, Option.bind_some, if_neg (by simp)]
  have ht : ∀ S, rollcalllaw01_FoldCompares.J0 2000 x y true S = some (true, S) := fun S => by rw [rollcalllaw01_FoldCompares.J0, if_pos rfl]
  by_cases hx : x.length ≤ 100
  · rw [if_neg (by omega)]
    by_cases hy : y.length ≤ 100
    · rw [show decide ((y.length : Int) > 100) = false by simp; omega, rollcalllaw01_FoldCompares.J0, if_neg (by simp)]
      by_cases hl : y.length ≤ x.length
      · have hmn : mn (x.length : Int) (y.length : Int) = (y.length : Int) := by unfold mn; split <;> omega
        rw [if_pos (by omega), hmn, if_pos ⟨by omega, by omega, by omega⟩, show ssub x 0 (y.length : Int) = x.take y.length by simp [ssub]]
        obtain ⟨S2, e2, f2⟩ := refSame_spec (k := 2000) (m := 0) (x := x.take y.length) (y := y) (S := S1) (by simp; omega) (by omega) (by omega) (Nat.zero_le _)
        rw [e2, Option.bind_some]
        exact compares_core hx hy _ (by simp [hl]) S2
      · rw [if_neg (by omega)]
        exact compares_core hx hy _ (by simp; intro h; omega) S1
    · rw [show decide ((y.length : Int) > 100) = true by simp; omega]
      exact ⟨_, ht _⟩
  · rw [if_pos (by omega)]
    exact ⟨_, ht _⟩

theorem cmpL_range : ∀ (x y : List UInt8), cmpL x y = -1 ∨ cmpL x y = 0 ∨ cmpL x y = 1 := by
  intro x y
  rw [cmpL_slt]
  split
  · exact .inl rfl
  · split
    · exact .inr (.inl rfl)
    · exact .inr (.inr rfl)
theorem cmpL_anti : ∀ (x y : List UInt8), cmpL y x = - cmpL x y := by
  intro x
  induction x with
  | nil => intro y; cases y <;> simp [cmpL]
  | cons a s ih =>
    intro y
    cases y with
    | nil => simp [cmpL]
    | cons b t =>
      simp only [cmpL]
      by_cases c1 : (low a).toNat < (low b).toNat
      · simp [c1, show ¬ (low b).toNat < (low a).toNat by omega]
      · by_cases c2 : (low b).toNat < (low a).toNat
        · simp [c1, c2]
        · simp [c1, c2, ih]
theorem cmpL_trans : ∀ (x y z : List UInt8), cmpL x y ≤ 0 → cmpL y z ≤ 0 → cmpL x z ≤ 0 := by
  intro x
  induction x with
  | nil => intro y z _ _; cases z <;> simp [cmpL]
  | cons a s ih =>
    intro y z h1 h2
    cases y with
    | nil => simp [cmpL] at h1
    | cons b t =>
      cases z with
      | nil => simp [cmpL] at h2
      | cons c u =>
        simp only [cmpL] at h1 h2 ⊢
        by_cases c1 : (low b).toNat < (low a).toNat
        · rw [if_neg (by omega), if_pos c1] at h1; omega
        by_cases c2 : (low c).toNat < (low b).toNat
        · rw [if_neg (by omega), if_pos c2] at h2; omega
        by_cases c3 : (low a).toNat < (low c).toNat
        · rw [if_pos c3]; omega
        · rw [if_neg c3, if_neg (by omega)]
          rw [if_neg (by omega), if_neg c1] at h1
          rw [if_neg (by omega), if_neg c2] at h2
          exact ih _ _ h1 h2
theorem cmpL_app (c : List UInt8) : ∀ (x y : List UInt8), cmpL (c ++ x) (c ++ y) = cmpL x y := by
  intro x y
  induction c with
  | nil => rfl
  | cons a s ih => simp [cmpL, ih]
theorem order_core {a b c : List UInt8} (ha : a.length ≤ 60) (hb : b.length ≤ 60) (hc : c.length ≤ 60) (S : HS) : ∃ S', rollcalllaw01_FoldOrder.J5 1000 a b c (cmpL a b) false S = some (true, S') := by
  obtain ⟨S1, e1, f1⟩ := text_spec (k := 1000) (m := 0) (x := a) (S := S) (by omega) (by omega) (Nat.zero_le _)
  rw [rollcalllaw01_FoldOrder.J5, if_neg (by simp), if_pos (by omega), if_pos (by omega), compare_spec (by simp; omega) (by simp; omega), Option.bind_some, cmpL_app, if_pos rfl, if_pos (by omega), prefix_spec (by simp; omega) (by simp; omega), Option.bind_some,
    rollcalllaw01_FoldOrder.J6, if_pos (by simp), e1, Option.bind_some, if_pos (by simp; omega), prefix_spec (by simp; omega) (by simp; omega), Option.bind_some, rollcalllaw01_FoldOrder.J7]
  refine ⟨S1, ?_⟩
  have : (a.map low ++ b).take a.length = a.map low := by rw [List.take_left' (by simp)]
  rw [this]
  simp [low_low]
theorem foldOrder_law (a b c : List UInt8) (S : HS) : ∃ S', rollcalllaw01_FoldOrder.f 1000 a b c S = some (true, S') := by
  unfold rollcalllaw01_FoldOrder.f
  obtain ⟨S1, e1, f1⟩ := awake_spec (k := 1000) (m := 0) (S := S) (by omega) (Nat.zero_le _)
  rw [e1, Option.bind_some, if_neg (by simp)]
  have ht : ∀ S, rollcalllaw01_FoldOrder.J1 1000 a b c true S = some (true, S) := fun S => by rw [rollcalllaw01_FoldOrder.J1, if_pos rfl]
  by_cases ha : a.length ≤ 60
  · rw [if_neg (by omega)]
    by_cases hb : b.length ≤ 60
    · rw [show decide ((b.length : Int) > 60) = false by simp; omega, rollcalllaw01_FoldOrder.J0, if_neg (by simp)]
      by_cases hc : c.length ≤ 60
      · rw [show decide ((c.length : Int) > 60) = false by simp; omega, rollcalllaw01_FoldOrder.J1, if_neg (by simp), compare_spec (by omega) (by omega), Option.bind_some, compare_spec (by omega) (by omega), Option.bind_some, compare_spec (by omega) (by omega), Option.bind_some]
        have hr := cmpL_range a b
        rw [cmpL_anti a b, if_neg (by rw [w64_id (by omega) (by omega)]; simp), same_spec (by omega) (by omega), Option.bind_some]
        have hz : (!((decide (cmpL a b = 0)) == decide (a.map low = b.map low))) = false := by simp [cmpL_zero]
        rw [hz, rollcalllaw01_FoldOrder.J2, if_neg (by simp)]
        have h3 : ∀ S, ∃ S', rollcalllaw01_FoldOrder.J3 1000 a b c (cmpL a b) (cmpL b c) false S = some (true, S') := by
          intro S
          rw [rollcalllaw01_FoldOrder.J3, if_neg (by simp)]
          by_cases h1 : cmpL a b ≤ 0
          · rw [if_pos h1]
            by_cases h2 : cmpL b c ≤ 0
            · rw [show decide (cmpL b c ≤ 0) = true by simp [h2], rollcalllaw01_FoldOrder.J4, if_pos rfl, compare_spec (by omega) (by omega), Option.bind_some]
              have := cmpL_trans a b c h1 h2
              rw [show decide (cmpL a c > 0) = false by simp; omega]
              exact order_core ha hb hc S
            · rw [show decide (cmpL b c ≤ 0) = false by simp; omega, rollcalllaw01_FoldOrder.J4, if_neg (by simp)]
              exact order_core ha hb hc S
          · rw [if_neg h1, rollcalllaw01_FoldOrder.J4, if_neg (by simp)]
            exact order_core ha hb hc S
        by_cases h0 : cmpL a b = 0
        · have hl : a.length = b.length := by simpa using congrArg List.length ((cmpL_zero a b).1 h0)
          rw [if_pos h0, rollcalllaw01_FoldOrder.J8, if_neg (by simp), show (!decide ((a.length : Int) = (b.length : Int))) = false by simp [hl]]
          exact h3 _
        · rw [if_neg h0, rollcalllaw01_FoldOrder.J8, if_neg (by simp)]
          exact h3 _
      · rw [show decide ((c.length : Int) > 60) = true by simp; omega]
        exact ⟨_, ht _⟩
    · rw [show decide ((b.length : Int) > 60) = true by simp; omega, rollcalllaw01_FoldOrder.J0, if_pos rfl]
      exact ⟨_, ht _⟩
  · rw [if_pos (by omega), rollcalllaw01_FoldOrder.J0, if_pos rfl]
    exact ⟨_, ht _⟩

/-! ### the calls -/
theorem foldHalves_call (W : World) (a b c d : List UInt8) : HCall Try.prog W.heap.size W B0 5 [.str a, .str b, .str c, .str d] S0 (fun v _ => v = .bool true) :=
  let ⟨_, h⟩ := foldHalves_law a b c d S0
  (rollcalllaw01_FoldHalves.snd h).mono fun _ _ h => h.1
theorem foldCompares_call (W : World) (a b : List UInt8) : HCall Try.prog W.heap.size W B0 6 [.str a, .str b] S0 (fun v _ => v = .bool true) :=
  let ⟨_, h⟩ := foldCompares_law a b S0
  (rollcalllaw01_FoldCompares.snd h).mono fun _ _ h => h.1
theorem foldOrder_call (W : World) (a b c : List UInt8) : HCall Try.prog W.heap.size W B0 7 [.str a, .str b, .str c] S0 (fun v _ => v = .bool true) :=
  let ⟨_, h⟩ := foldOrder_law a b c S0
  (rollcalllaw01_FoldOrder.snd h).mono fun _ _ h => h.1
theorem foldTexts_call (W : World) (x : List UInt8) : HCall Try.prog W.heap.size W B0 3 [.str x] S0 (fun v _ => v = .bool true) :=
  let ⟨_, h⟩ := foldTexts_law x S0
  (rollcalllaw01_FoldTexts.snd h).mono fun _ _ h => h.1
theorem foldBytes_call (W : World) (n : Int) (w : (Lit.int .u8 n).wf = true) : HCall Try.prog W.heap.size W B0 4 [.int .u8 n] S0 (fun v _ => v = .bool true) := by
  have hn : 0 ≤ n ∧ n ≤ 255 := by simpa [Lit.wf, IntKind.min, IntKind.max, IntKind.signed, IntKind.bits] using w
  obtain ⟨S', h⟩ := foldBytes_law (UInt8.ofNat n.toNat) S0
  have e : ((UInt8.ofNat n.toNat).toNat : Int) = n := by simp; omega
  rw [e] at h
  exact (rollcalllaw01_FoldBytes.snd h).mono fun _ _ h => h.1
end Go.Proofs.Ytigobginglaieaa.X
