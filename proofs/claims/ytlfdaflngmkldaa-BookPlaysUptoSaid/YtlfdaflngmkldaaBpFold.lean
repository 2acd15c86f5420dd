/- Lemmas on folded texts. -/
import Derived.Test.YtlfdaflngmkldaaBkPlay3
import Derived.Test.YtlfdaflngmkldaaHLs
namespace Go.Proofs.Ytlfdaflngmkldaa.X
open Go.Proofs.Ytlfdaflngmkldaa.HL
set_option linter.unusedVariables false
def low (b : UInt8) : UInt8 := if 65 ≤ b.toNat ∧ b.toNat ≤ 93 then b + 32 else if b.toNat = 126 then 94 else b
theorem all_bytes {p : UInt8 → Prop} (h : ∀ n : Fin 256, p (UInt8.ofNat n.val)) (b : UInt8) : p b := by
  have := h ⟨b.toNat, b.toNat_lt⟩
  simpa using this
theorem byte_spec (b : UInt8) : fold_Byte.f (b.toNat : Int) = some ((low b).toNat : Int) :=
  all_bytes (p := fun b => fold_Byte.f (b.toNat : Int) = some ((low b).toNat : Int)) (by decide +kernel) b
def look (y : Nat) : List UInt8 → List UInt8 → Nat
  | a :: s, b :: t => if a.toNat = y then b.toNat else look y s t
  | _, _ => y
theorem refByte_loop {k y : Nat} {src dst : List UInt8} (hl : dst.length = src.length) (hs : src.length ≤ 100000) : ∀ (n i : Nat), src.length - i < n → i ≤ src.length →
    rollcallref01_Byte.L0 k n y src dst (i : Int) = some (look y (src.drop i) (dst.drop i) : Int) := by
  intro n
  induction n with
  | zero => intro i h; omega
  | succ n ih =>
    intro i h hi
    unfold rollcallref01_Byte.L0
    by_cases hlt : i < src.length
    · rw [if_pos (by omega), sat_lt hlt, Option.bind_some, List.drop_eq_getElem_cons hlt, List.drop_eq_getElem_cons (show i < dst.length by omega)]
      by_cases he : src[i].toNat = y
      · rw [if_pos (by omega), sat_lt (show i < dst.length by omega)]
        simp [look, he]
      · rw [if_neg (by omega), w64_id (by omega) (by omega)]
        have := ih (i + 1) (by omega) (by omega)
        rw [show ((i : Int) + 1) = ((i + 1 : Nat) : Int) by simp, this]
        simp [look, he]
    · rw [if_neg (by omega), List.drop_eq_nil_of_le (by omega)]
      simp [look]
theorem refByte_spec {k : Nat} (hk : 31 ≤ k) (b : UInt8) : rollcallref01_Byte.f k (b.toNat : Int) = some ((low b).toNat : Int) := by
  unfold rollcallref01_Byte.f
  have := refByte_loop (k := k) (y := b.toNat) (src := [65, 66, 67, 68, 69, 70, 71, 72, 73, 74, 75, 76, 77, 78, 79, 80, 81, 82, 83, 84, 85, 86, 87, 88, 89, 90, 91, 93, 92, 126]) (dst := [97, 98, 99, 100, 101, 102, 103, 104, 105, 106, 107, 108, 109, 110, 111, 112, 113, 114, 115, 116, 117, 118, 119, 120, 121, 122, 123, 125, 124, 94]) rfl (by decide) k 0 (by simp; omega) (by simp)
  refine this.trans ?_
  congr 2
  exact all_bytes (p := fun b => look b.toNat (List.drop 0 [65, 66, 67, 68, 69, 70, 71, 72, 73, 74, 75, 76, 77, 78, 79, 80, 81, 82, 83, 84, 85, 86, 87, 88, 89, 90, 91, 93, 92, 126]) (List.drop 0 [97, 98, 99, 100, 101, 102, 103, 104, 105, 106, 107, 108, 109, 110, 111, 112, 113, 114, 115, 116, 117, 118, 119, 120, 121, 122, 123, 125, 124, 94]) = (low b).toNat) (by decide +kernel) b
theorem row_of (b : UInt8) : [[HV.int .u8 (b.toNat : Int)]] = bytesRows [b] := rfl
theorem take_succ_map {x : List UInt8} {i : Nat} (h : i < x.length) : (x.take (i + 1)).map low = (x.take i).map low ++ [low x[i]] := by
  rw [List.take_succ_eq_append_getElem h, List.map_append]; rfl
theorem refText_loop {k m : Nat} {x : List UInt8} (hx : x.length ≤ 100000) (hk : 31 ≤ k) : ∀ (n i : Nat) (S : HS), x.length - i < n → i ≤ x.length → m ≤ S.next →
    ∃ S', rollcallref01_Text.L0 k n x ((x.take i).map low) (i : Int) S = some (x.map low, S') ∧ Fr m S S' := by
  intro n
  induction n with
  | zero => intro i S h; omega
  | succ n ih =>
    intro i S h hi hm
    unfold rollcallref01_Text.L0
    by_cases hlt : i < x.length
    · rw [if_pos (by omega), sat_lt hlt, Option.bind_some, refByte_spec hk, Option.bind_some, letv, row_of]
      have hl := Vec.lit (n := m) (z := 1) (S := S) (bytesRows [low x[i]]) hm
      rw [hl.text, Option.bind_some, if_pos (by simp; omega), w64_id (by omega) (by omega), show ((i : Int) + 1) = ((i + 1 : Nat) : Int) by simp, ← take_succ_map hlt]
      have hf0 := lit_fr (n := m) (z := 1) (S := S) (bytesRows [low x[i]]) hm
      obtain ⟨S2, e2, hf2⟩ := ih (i + 1) _ (by omega) (by omega) (Nat.le_trans hm hf0.le)
      exact ⟨S2, e2, hf0.trans hf2⟩
    · rw [if_neg (by omega), show i = x.length by omega, List.take_length]
      exact ⟨S, rfl, Fr.refl _ _⟩
theorem refText_spec {k m : Nat} {x : List UInt8} {S : HS} (hx : x.length ≤ 100000) (hk : x.length < k) (hk2 : 31 ≤ k) (hm : m ≤ S.next) : ∃ S', rollcallref01_Text.f k x S = some (x.map low, S') ∧ Fr m S S' :=
  refText_loop hx hk2 k 0 S (by omega) (by omega) hm
def cmpL : List UInt8 → List UInt8 → Int
  | [], [] => 0
  | [], _ :: _ => -1
  | _ :: _, [] => 1
  | a :: s, b :: t => if (low a).toNat < (low b).toNat then -1 else if (low b).toNat < (low a).toNat then 1 else cmpL s t
theorem compare_loop {k : Nat} {x y : List UInt8} (hx : x.length ≤ 100000) : ∀ (n i : Nat), min x.length y.length - i < n → i ≤ min x.length y.length →
    fold_Compare.L0 k n x y (min x.length y.length : Nat) (i : Int) = some (cmpL (x.drop i) (y.drop i)) := by
  intro n
  induction n with
  | zero => intro i h; omega
  | succ n ih =>
    intro i h hi
    unfold fold_Compare.L0
    by_cases hlt : i < min x.length y.length
    · have h1 : i < x.length := by omega
      have h2 : i < y.length := by omega
      rw [if_pos (by omega), sat_lt h1, Option.bind_some, byte_spec, Option.bind_some, sat_lt h2, Option.bind_some, byte_spec, Option.bind_some, List.drop_eq_getElem_cons h1, List.drop_eq_getElem_cons h2, cmpL]
      by_cases c1 : (low x[i]).toNat < (low y[i]).toNat
      · rw [if_pos (by omega), if_pos c1]
      · rw [if_neg (by omega), if_neg c1]
        by_cases c2 : (low y[i]).toNat < (low x[i]).toNat
        · rw [if_pos (by omega), if_pos c2]
        · rw [if_neg (by omega), if_neg c2, w64_id (by omega) (by omega), show ((i : Int) + 1) = ((i + 1 : Nat) : Int) by simp]
          exact ih (i + 1) (by omega) (by omega)
    · rw [if_neg (by omega)]
      by_cases c1 : x.length < y.length
      · rw [if_pos (by omega), List.drop_eq_nil_of_le (show x.length ≤ i by omega), List.drop_eq_getElem_cons (show i < y.length by omega), cmpL]
      · rw [if_neg (by omega)]
        by_cases c2 : y.length < x.length
        · rw [if_pos (by omega), List.drop_eq_nil_of_le (show y.length ≤ i by omega), List.drop_eq_getElem_cons (show i < x.length by omega), cmpL]
        · rw [if_neg (by omega), List.drop_eq_nil_of_le (show y.length ≤ i by omega), List.drop_eq_nil_of_le (show x.length ≤ i by omega), cmpL]
theorem compare_spec {k : Nat} {x y : List UInt8} (hx : x.length ≤ 100000) (hk : x.length < k) : fold_Compare.f k x y = some (cmpL x y) := by
  unfold fold_Compare.f
  have := compare_loop (k := k) (y := y) hx k 0 (by omega) (by omega)
  rw [show mn (x.length : Int) (y.length : Int) = ((min x.length y.length : Nat) : Int) by unfold mn; split <;> omega]
  simpa using this
theorem cmpL_zero : ∀ (x y : List UInt8), cmpL x y = 0 ↔ x.map low = y.map low := by
  intro x
  induction x with
  | nil => intro y; cases y <;> simp [cmpL]
  | cons a s ih =>
    intro y
    cases y with
    | nil => simp [cmpL]
    | cons b t =>
      simp only [cmpL, List.map_cons, List.cons.injEq]
      by_cases c1 : (low a).toNat < (low b).toNat
      · rw [if_pos c1]
        constructor
        · intro h; omega
        · intro h; rw [h.1] at c1; omega
      · rw [if_neg c1]
        by_cases c2 : (low b).toNat < (low a).toNat
        · rw [if_pos c2]
          constructor
          · intro h; omega
          · intro h; rw [h.1] at c2; omega
        · rw [if_neg c2, ih]
          constructor
          · intro h; exact ⟨UInt8.toNat_inj.1 (by omega), h⟩
          · intro h; exact h.2
theorem slt_irrefl : ∀ (x : List UInt8), slt x x = false := by
  intro x
  induction x with
  | nil => rfl
  | cons a s ih => simp [slt, ih]
theorem cmpL_slt : ∀ (x y : List UInt8), cmpL x y = if slt (x.map low) (y.map low) = true then -1 else if x.map low = y.map low then 0 else 1 := by
  intro x
  induction x with
  | nil => intro y; cases y <;> simp [cmpL, slt]
  | cons a s ih =>
    intro y
    cases y with
    | nil => simp [cmpL, slt]
    | cons b t =>
      simp only [cmpL, List.map_cons, slt, Bool.or_eq_true, decide_eq_true_eq, Bool.and_eq_true, beq_iff_eq, UInt8.lt_iff_toNat_lt, List.cons.injEq]
      by_cases c1 : (low a).toNat < (low b).toNat
      · simp [c1]
      · by_cases c2 : (low b).toNat < (low a).toNat
        · have hne : low a ≠ low b := fun h => by rw [h] at c2; omega
          simp [c1, c2, hne]
        · have heq : low a = low b := UInt8.toNat_inj.1 (by omega)
          rw [ih]
          simp [c1, c2, heq]
theorem refCompare_spec {k m : Nat} {x y : List UInt8} {S : HS} (hx : x.length ≤ 1000) (hy : y.length ≤ 1000) (hk : 2000 ≤ k) (hm : m ≤ S.next) : ∃ S', rollcallref01_Compare.f k x y S = some (cmpL x y, S') ∧ Fr m S S' := by
  unfold rollcallref01_Compare.f
  obtain ⟨S1, e1, f1⟩ := refText_spec (k := k) (m := m) (x := x) (S := S) (by omega) (by omega) (by omega) hm
  obtain ⟨S2, e2, f2⟩ := refText_spec (k := k) (m := m) (x := y) (S := S1) (by omega) (by omega) (by omega) (Nat.le_trans hm f1.le)
  refine ⟨S2, ?_, f1.trans f2⟩
  rw [e1, Option.bind_some, e2, Option.bind_some, cmpL_slt]
  by_cases c1 : slt (x.map low) (y.map low) = true
  · rw [if_pos c1, if_pos c1]
  · rw [if_neg c1, if_neg c1]
    by_cases c2 : x.map low = y.map low
    · rw [if_neg (by simp [c2]), if_pos c2]
    · rw [if_pos (by simp [c1, c2]), if_neg c2]
theorem cmpL_range : ∀ (x y : List UInt8), cmpL x y = -1 ∨ cmpL x y = 0 ∨ cmpL x y = 1 := by
  intro x y
  rw [cmpL_slt]
  split
  · exact .inl rfl
  · split
    · exact .inr (.inl rfl)
    · exact .inr (.inr rfl)
theorem cmpL_anti : ∀ (x y : List UInt8), cmpL y x = - cmpL x y := by
  intro x
  induction x with
  | nil => intro y; cases y <;> simp [cmpL]
  | cons a s ih =>
    intro y
    cases y with
    | nil => simp [cmpL]
    | cons b t =>
      simp only [cmpL]
      by_cases c1 : (low a).toNat < (low b).toNat
      · simp [c1, show ¬ (low b).toNat < (low a).toNat by omega]
      · by_cases c2 : (low b).toNat < (low a).toNat
        · simp [c1, c2]
        · simp [c1, c2, ih]
theorem cmpL_trans : ∀ (x y z : List UInt8), cmpL x y ≤ 0 → cmpL y z ≤ 0 → cmpL x z ≤ 0 := by
  intro x
  induction x with
  | nil => intro y z _ _; cases z <;> simp [cmpL]
  | cons a s ih =>
    intro y z h1 h2
    cases y with
    | nil => simp [cmpL] at h1
    | cons b t =>
      cases z with
      | nil => simp [cmpL] at h2
      | cons c u =>
        simp only [cmpL] at h1 h2 ⊢
        by_cases c1 : (low b).toNat < (low a).toNat
        · rw [if_neg (by omega), if_pos c1] at h1; omega
        by_cases c2 : (low c).toNat < (low b).toNat
        · rw [if_neg (by omega), if_pos c2] at h2; omega
        by_cases c3 : (low a).toNat < (low c).toNat
        · rw [if_pos c3]; omega
        · rw [if_neg c3, if_neg (by omega)]
          rw [if_neg (by omega), if_neg c1] at h1
          rw [if_neg (by omega), if_neg c2] at h2
          exact ih _ _ h1 h2
end Go.Proofs.Ytlfdaflngmkldaa.X
