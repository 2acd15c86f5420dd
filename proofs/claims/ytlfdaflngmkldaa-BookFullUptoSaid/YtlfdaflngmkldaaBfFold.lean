/- Lemmas on folded texts. -/
import Derived.Test.YtlfdaflngmkldaaBfX2
import Derived.Test.YtlfdaflngmkldaaHLs
namespace Go.Proofs.Ytlfdaflngmkldaa.X
open Go.Proofs.Ytlfdaflngmkldaa.HL
set_option linter.unusedVariables false
def low (b : UInt8) : UInt8 := if 65 ≤ b.toNat ∧ b.toNat ≤ 93 then b + 32 else if b.toNat = 126 then 94 else b
theorem all_bytes {p : UInt8 → Prop} (h : ∀ n : Fin 256, p (UInt8.ofNat n.val)) (b : UInt8) : p b := by
  have := h ⟨b.toNat, b.toNat_lt⟩
  simpa using this
theorem byte_spec (b : UInt8) : fold_Byte.f (b.toNat : Int) = some ((low b).toNat : Int) :=
  all_bytes (p := fun b => fold_Byte.f (b.toNat : Int) = some ((low b).toNat : Int)) (by decide +kernel) b
def look (y : Nat) : List UInt8 → List UInt8 → Nat
  | a :: s, b :: t => if a.toNat = y then b.toNat else look y s t
  | _, _ => y
def cmpL : List UInt8 → List UInt8 → Int
  | [], [] => 0
  | [], _ :: _ => -1
  | _ :: _, [] => 1
  | a :: s, b :: t => if (low a).toNat < (low b).toNat then -1 else if (low b).toNat < (low a).toNat then 1 else cmpL s t
theorem compare_loop {k : Nat} {x y : List UInt8} (hx : x.length ≤ 100000) : ∀ (n i : Nat), min x.length y.length - i < n → i ≤ min x.length y.length →
    fold_Compare.L0 k n x y (min x.length y.length : Nat) (i : Int) = some (cmpL (x.drop i) (y.drop i)) := by
  intro n
  induction n with
  | zero => intro i h; omega
  | succ n ih =>
    intro i h hi
    unfold fold_Compare.L0
    by_cases hlt : i < min x.length y.length
    · have h1 : i < x.length := by omega
      have h2 : i < y.length := by omega
      rw [if_pos (by omega), sat_lt h1, Option.bind_some, byte_spec, Option.bind_some, sat_lt h2, Option.bind_some, byte_spec, Option.bind_some, List.drop_eq_getElem_cons h1, List.drop_eq_getElem_cons h2, cmpL]
      by_cases c1 : (low x[i]).toNat < (low y[i]).toNat
      · rw [if_pos (by omega), if_pos c1]
      · rw [if_neg (by omega), if_neg c1]
        by_cases c2 : (low y[i]).toNat < (low x[i]).toNat
        · rw [if_pos (by omega), if_pos c2]
        · rw [if_neg (by omega), if_neg c2, w64_id (by omega) (by omega), show ((i : Int) + 1) = ((i + 1 : Nat) : Int) by simp]
          exact ih (i + 1) (by omega) (by omega)
    · rw [if_neg (by omega)]
      by_cases c1 : x.length < y.length
      · rw [if_pos (by omega), List.drop_eq_nil_of_le (show x.length ≤ i by omega), List.drop_eq_getElem_cons (show i < y.length by omega), cmpL]
      · rw [if_neg (by omega)]
        by_cases c2 : y.length < x.length
        · rw [if_pos (by omega), List.drop_eq_nil_of_le (show y.length ≤ i by omega), List.drop_eq_getElem_cons (show i < x.length by omega), cmpL]
        · rw [if_neg (by omega), List.drop_eq_nil_of_le (show y.length ≤ i by omega), List.drop_eq_nil_of_le (show x.length ≤ i by omega), cmpL]
theorem compare_spec {k : Nat} {x y : List UInt8} (hx : x.length ≤ 100000) (hk : x.length < k) : fold_Compare.f k x y = some (cmpL x y) := by
  unfold fold_Compare.f
  have := compare_loop (k := k) (y := y) hx k 0 (by omega) (by omega)
  rw [show mn (x.length : Int) (y.length : Int) = ((min x.length y.length : Nat) : Int) by unfold mn; split <;> omega]
  simpa using this
theorem cmpL_zero : ∀ (x y : List UInt8), cmpL x y = 0 ↔ x.map low = y.map low := by
  intro x
  induction x with
  | nil => intro y; cases y <;> simp [cmpL]
  | cons a s ih =>
    intro y
    cases y with
    | nil => simp [cmpL]
    | cons b t =>
      simp only [cmpL, List.map_cons, List.cons.injEq]
      by_cases c1 : (low a).toNat < (low b).toNat
      · rw [if_pos c1]
        constructor
        · intro h; omega
        · intro h; rw [h.1] at c1; omega
      · rw [if_neg c1]
        by_cases c2 : (low b).toNat < (low a).toNat
        · rw [if_pos c2]
          constructor
          · intro h; omega
          · intro h; rw [h.1] at c2; omega
        · rw [if_neg c2, ih]
          constructor
          · intro h; exact ⟨UInt8.toNat_inj.1 (by omega), h⟩
          · intro h; exact h.2
theorem slt_irrefl : ∀ (x : List UInt8), slt x x = false := by
  intro x
  induction x with
  | nil => rfl
  | cons a s ih => simp [slt, ih]
theorem cmpL_slt : ∀ (x y : List UInt8), cmpL x y = if slt (x.map low) (y.map low) = true then -1 else if x.map low = y.map low then 0 else 1 := by
  intro x
  induction x with
  | nil => intro y; cases y <;> simp [cmpL, slt]
  | cons a s ih =>
    intro y
    cases y with
    | nil => simp [cmpL, slt]
    | cons b t =>
      simp only [cmpL, List.map_cons, slt, Bool.or_eq_true, decide_eq_true_eq, Bool.and_eq_true, beq_iff_eq, UInt8.lt_iff_toNat_lt, List.cons.injEq]
      by_cases c1 : (low a).toNat < (low b).toNat
      · simp [c1]
      · by_cases c2 : (low b).toNat < (low a).toNat
        · have hne : low a ≠ low b := fun h => by rw [h] at c2; omega
          simp [c1, c2, hne]
        · have heq : low a = low b := UInt8.toNat_inj.1 (by omega)
          rw [ih]
          simp [c1, c2, heq]
theorem cmpL_range : ∀ (x y : List UInt8), cmpL x y = -1 ∨ cmpL x y = 0 ∨ cmpL x y = 1 := by
  intro x y
  rw [cmpL_slt]
  split
  · exact .inl rfl
  · split
    · exact .inr (.inl rfl)
    · exact .inr (.inr rfl)
theorem cmpL_anti : ∀ (x y : List UInt8), cmpL y x = - cmpL x y := by
  intro x
  induction x with
  | nil => intro y; cases y <;> simp [cmpL]
  | cons a s ih =>
    intro y
    cases y with
    | nil => simp [cmpL]
    | cons b t =>
      simp only [cmpL]
      by_cases c1 : (low a).toNat < (low b).toNat
      · simp [c1, show ¬ (low b).toNat < (low a).toNat by omega]
      · by_cases c2 : (low b).toNat < (low a).toNat
        · simp [c1, c2]
        · simp [c1, c2, ih]
theorem cmpL_trans : ∀ (x y z : List UInt8), cmpL x y ≤ 0 → cmpL y z ≤ 0 → cmpL x z ≤ 0 := by
  intro x
  induction x with
  | nil => intro y z _ _; cases z <;> simp [cmpL]
  | cons a s ih =>
    intro y z h1 h2
    cases y with
    | nil => simp [cmpL] at h1
    | cons b t =>
      cases z with
      | nil => simp [cmpL] at h2
      | cons c u =>
        simp only [cmpL] at h1 h2 ⊢
        by_cases c1 : (low b).toNat < (low a).toNat
        · rw [if_neg (by omega), if_pos c1] at h1; omega
        by_cases c2 : (low c).toNat < (low b).toNat
        · rw [if_neg (by omega), if_pos c2] at h2; omega
        by_cases c3 : (low a).toNat < (low c).toNat
        · rw [if_pos c3]; omega
        · rw [if_neg c3, if_neg (by omega)]
          rw [if_neg (by omega), if_neg c1] at h1
          rw [if_neg (by omega), if_neg c2] at h2
          exact ih _ _ h1 h2
end Go.Proofs.Ytlfdaflngmkldaa.X
